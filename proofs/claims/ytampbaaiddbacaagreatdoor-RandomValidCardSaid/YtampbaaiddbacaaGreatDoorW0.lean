/- What random makes of a tape is valid, of its types, and not too large: a proof over an abstract machine of our own (part W0) -/
import Derived.Test.YtampbaaiddbacaaGreatDoorChecked
import Derived.Test.YtampbaaiddbacaaGreatDoorLe
import Derived.Lib.ItoaNum
set_option maxRecDepth 100000
set_option maxHeartbeats 4000000
set_option linter.all false
namespace Go.Proofs.YtampbaaiddbacaaGreatDoor
section
open Go.Am
structure FmD where
 word:ByteArray
 kids:Int
 uses:ByteArray
instance:Inhabited FmD:=⟨⟨ByteArray.empty,0,ByteArray.empty⟩⟩
def fmTab:List FmD:=[⟨⟨#[]⟩,0,⟨#[]⟩⟩,⟨⟨#[115,99,97,110]⟩,0,⟨#[116,97,98,108,101]⟩⟩,⟨⟨#[118,97,108,117,101,115]⟩,0,⟨#[116,121,112,101,115,32,114,111,119,115]⟩⟩,⟨⟨#[115,101,108,101,99,116]⟩,1,⟨#[99,111,110,100]⟩⟩,⟨⟨#[112,114,111,106,101,99,116]⟩,1,⟨#[101,120,112,114,115]⟩⟩,⟨⟨#[106,111,105,110]⟩,2,⟨#[107,105,110,100,32,99,111,110,100]⟩⟩,⟨⟨#[117,110,105,111,110]⟩,2,⟨#[97,108,108]⟩⟩,⟨⟨#[101,120,99,101,112,116]⟩,2,⟨#[97,108,108]⟩⟩,⟨⟨#[105,110,116,101,114,115,101,99,116]⟩,2,⟨#[97,108,108]⟩⟩,⟨⟨#[100,105,115,116,105,110,99,116]⟩,1,⟨#[]⟩⟩,⟨⟨#[103,114,111,117,112]⟩,1,⟨#[101,120,112,114,115,32,97,103,103,115]⟩⟩]
def rFm (o:FmD):List D:=[.lit (.string o.word),.lit (.int .i64 o.kids),.lit (.string o.uses)]
def fmRow:List D:=(fmTab.map rFm).flatten
instance tabs:Tab:=⟨(fun | 0=>some fmRow | 2=>some opRow | 3=>some [.lit (.int .i64 0),.lit (.int .i64 0),.lit (.string ⟨#[]⟩)] | 4=>some (Lib.pow10Tab.map fun z=>D.lit (.int .u64 z)) | _=>none),[1]⟩
theorem tabFm:Tab.tab 0=some fmRow:=rfl
theorem tab0:Tab.tab 2=some opRow:=rfl
def tt:Types
 | 2=>some ⟨.int .i64,1,8,[.int .i64 0],[0],false⟩
 | 3=>some ⟨.int .i64,1,8,[.int .i64 0],[0],false⟩
 | 4=>some ⟨.bool,1,1,[.bool false],[0],false⟩
 | 5=>some ⟨.int .u8,1,1,[.int .u8 0],[0],false⟩
 | 9=>some ⟨.string,1,16,[.string ByteArray.empty],[0],false⟩
 | 12=>some ⟨.int .u64,1,8,[.int .u64 0],[0],false⟩
 | 13=>some ⟨.struct [(9,0),(12,1)],2,24,[.string ByteArray.empty,.int .u64 0],[0,0],false⟩
 | 21=>some ⟨.int .i32,1,4,[.int .i32 0],[0],false⟩
 | 22=>some ⟨.slice 3,1,24,[.slice none 0 0],[1],false⟩
 | 24=>some ⟨.struct [(9,0),(3,1),(4,2)],3,32,[.string ByteArray.empty,.int .i64 0,.bool false],[0,0,0],true⟩
 | 25=>some ⟨.struct [(9,0),(3,1),(4,2)],3,32,[.string ByteArray.empty,.int .i64 0,.bool false],[0,0,0],true⟩
 | 26=>some ⟨.slice 25,1,24,[.slice none 0 0],[3],false⟩
 | 27=>some ⟨.slice 22,1,24,[.slice none 0 0],[1],false⟩
 | 28=>some ⟨.slice 87,1,24,[.slice none 0 0],[2],false⟩
 | 29=>some ⟨.slice 52,1,24,[.slice none 0 0],[6],false⟩
 | 30=>some ⟨.struct [(9,0),(26,1),(22,2),(27,3),(28,4),(29,5)],6,136,[.string ByteArray.empty,.slice none 0 0,.slice none 0 0,.slice none 0 0,.slice none 0 0,.slice none 0 0],[0,3,1,1,2,6],false⟩
 | 31=>some ⟨.struct [(9,0),(26,1),(22,2),(27,3),(28,4),(29,5)],6,136,[.string ByteArray.empty,.slice none 0 0,.slice none 0 0,.slice none 0 0,.slice none 0 0,.slice none 0 0],[0,3,1,1,2,6],false⟩
 | 32=>some ⟨.slice 31,1,24,[.slice none 0 0],[6],false⟩
 | 33=>some ⟨.struct [(32,0)],1,24,[.slice none 0 0],[6],false⟩
 | 34=>some ⟨.struct [(32,0)],1,24,[.slice none 0 0],[6],false⟩
 | 35=>some ⟨.slice 42,1,24,[.slice none 0 0],[1,35,37],false⟩
 | 36=>some ⟨.struct [(35,0)],1,24,[.slice none 0 0],[1],false⟩
 | 37=>some ⟨.struct [(35,0)],1,24,[.slice none 0 0],[1],false⟩
 | 38=>some ⟨.int .i64,1,8,[.int .i64 0],[0],false⟩
 | 42=>some ⟨.slice 43,1,24,[.slice none 0 0],[1],false⟩
 | 43=>some ⟨.slice 45,1,24,[.slice none 0 0],[3],false⟩
 | 44=>some ⟨.struct [(3,0),(2,1),(9,2)],3,32,[.int .i64 0,.int .i64 0,.string ByteArray.empty],[0,0,0],true⟩
 | 45=>some ⟨.struct [(3,0),(2,1),(9,2)],3,32,[.int .i64 0,.int .i64 0,.string ByteArray.empty],[0,0,0],true⟩
 | 51=>some ⟨.struct [(3,0),(3,1),(2,2),(9,3),(3,4),(29,5)],6,72,[.int .i64 0,.int .i64 0,.int .i64 0,.string ByteArray.empty,.int .i64 0,.slice none 0 0],[0,0,0,0,0,6],false⟩
 | 52=>some ⟨.struct [(3,0),(3,1),(2,2),(9,3),(3,4),(29,5)],6,72,[.int .i64 0,.int .i64 0,.int .i64 0,.string ByteArray.empty,.int .i64 0,.slice none 0 0],[0,0,0,0,0,6],false⟩
 | 53=>some ⟨.slice 119,1,24,[.slice none 0 0],[7],false⟩
 | 54=>some ⟨.slice 56,1,24,[.slice none 0 0],[15],false⟩
 | 55=>some ⟨.struct [(3,0),(9,1),(3,2),(4,3),(52,4),(29,10),(53,11),(22,12),(42,13),(54,14)],15,232,[.int .i64 0,.string ByteArray.empty,.int .i64 0,.bool false,.int .i64 0,.int .i64 0,.int .i64 0,.string ByteArray.empty,.int .i64 0,.slice none 0 0,.slice none 0 0,.slice none 0 0,.slice none 0 0,.slice none 0 0,.slice none 0 0],[0,0,0,0,0,0,0,0,0,6,6,7,1,1,15],false⟩
 | 56=>some ⟨.struct [(3,0),(9,1),(3,2),(4,3),(52,4),(29,10),(53,11),(22,12),(42,13),(54,14)],15,232,[.int .i64 0,.string ByteArray.empty,.int .i64 0,.bool false,.int .i64 0,.int .i64 0,.int .i64 0,.string ByteArray.empty,.int .i64 0,.slice none 0 0,.slice none 0 0,.slice none 0 0,.slice none 0 0,.slice none 0 0,.slice none 0 0],[0,0,0,0,0,0,0,0,0,6,6,7,1,1,15],false⟩
 | 69=>some ⟨.pointer 106,1,8,[.pointer none],[0],false⟩
 | 74=>some ⟨.slice 34,1,24,[.slice none 0 0],[1],false⟩
 | 80=>some ⟨.pointer 124,1,8,[.pointer none],[0],false⟩
 | 86=>some ⟨.struct [(22,0),(9,1)],2,40,[.slice none 0 0,.string ByteArray.empty],[1,0],false⟩
 | 87=>some ⟨.struct [(22,0),(9,1)],2,40,[.slice none 0 0,.string ByteArray.empty],[1,0],false⟩
 | 93=>some ⟨.slice 173,1,24,[.slice none 0 0],[5],false⟩
 | 97=>some ⟨.struct [(80,0),(34,1)],2,32,[.pointer none,.slice none 0 0],[0,6],false⟩
 | 98=>some ⟨.struct [(80,0),(34,1)],2,32,[.pointer none,.slice none 0 0],[0,6],false⟩
 | 101=>some ⟨.struct [(80,0),(22,1)],2,32,[.pointer none,.slice none 0 0],[0,1],false⟩
 | 102=>some ⟨.struct [(80,0),(22,1)],2,32,[.pointer none,.slice none 0 0],[0,1],false⟩
 | 105=>some ⟨.struct [(22,0),(3,1)],2,32,[.slice none 0 0,.int .i64 0],[1,0],false⟩
 | 106=>some ⟨.struct [(22,0),(3,1)],2,32,[.slice none 0 0,.int .i64 0],[1,0],false⟩
 | 107=>some ⟨.pointer 155,1,8,[.pointer none],[0],false⟩
 | 111=>some ⟨.slice 5,1,24,[.slice none 0 0],[1],false⟩
 | 118=>some ⟨.struct [(3,0),(52,1)],7,80,[.int .i64 0,.int .i64 0,.int .i64 0,.int .i64 0,.string ByteArray.empty,.int .i64 0,.slice none 0 0],[0,0,0,0,0,0,6],false⟩
 | 119=>some ⟨.struct [(3,0),(52,1)],7,80,[.int .i64 0,.int .i64 0,.int .i64 0,.int .i64 0,.string ByteArray.empty,.int .i64 0,.slice none 0 0],[0,0,0,0,0,0,6],false⟩
 | 123=>some ⟨.struct [(22,0),(3,1)],2,32,[.slice none 0 0,.int .i64 0],[1,0],false⟩
 | 124=>some ⟨.struct [(22,0),(3,1)],2,32,[.slice none 0 0,.int .i64 0],[1,0],false⟩
 | 125=>some ⟨.slice 126,1,24,[.slice none 0 0],[1],false⟩
 | 126=>some ⟨.map 3 4,1,8,[.map none],[0],false⟩
 | 129=>some ⟨.array 4 9,4,64,[.string ByteArray.empty,.string ByteArray.empty,.string ByteArray.empty,.string ByteArray.empty],[0,0,0,0],false⟩
 | 130=>some ⟨.slice 9,1,24,[.slice none 0 0],[1],false⟩
 | 135=>some ⟨.slice 4,1,24,[.slice none 0 0],[1],false⟩
 | 154=>some ⟨.struct [(22,0),(3,1)],2,32,[.slice none 0 0,.int .i64 0],[1,0],false⟩
 | 155=>some ⟨.struct [(22,0),(3,1)],2,32,[.slice none 0 0,.int .i64 0],[1,0],false⟩
 | 167=>some ⟨.pointer 169,1,8,[.pointer none],[0],false⟩
 | 168=>some ⟨.struct [(34,0),(37,1),(135,2),(93,3)],4,96,[.slice none 0 0,.slice none 0 0,.slice none 0 0,.slice none 0 0],[6,1,1,5],false⟩
 | 169=>some ⟨.struct [(34,0),(37,1),(135,2),(93,3)],4,96,[.slice none 0 0,.slice none 0 0,.slice none 0 0,.slice none 0 0],[6,1,1,5],false⟩
 | 172=>some ⟨.struct [(3,0),(3,1),(3,2),(3,3),(3,4)],5,40,[.int .i64 0,.int .i64 0,.int .i64 0,.int .i64 0,.int .i64 0],[0,0,0,0,0],true⟩
 | 173=>some ⟨.struct [(3,0),(3,1),(3,2),(3,3),(3,4)],5,40,[.int .i64 0,.int .i64 0,.int .i64 0,.int .i64 0,.int .i64 0],[0,0,0,0,0],true⟩
 | 181=>some ⟨.array 3 3,3,24,[.int .i64 0,.int .i64 0,.int .i64 0],[0,0,0],false⟩
 | 183=>some ⟨.struct [(9,0),(3,1),(9,2)],3,40,[.string ByteArray.empty,.int .i64 0,.string ByteArray.empty],[0,0,0],true⟩
 | 184=>some ⟨.struct [(9,0),(3,1),(9,2)],3,40,[.string ByteArray.empty,.int .i64 0,.string ByteArray.empty],[0,0,0],true⟩
 | 210=>some ⟨.array 11 184,33,440,[.string ByteArray.empty,.int .i64 0,.string ByteArray.empty,.string ByteArray.empty,.int .i64 0,.string ByteArray.empty,.string ByteArray.empty,.int .i64 0,.string ByteArray.empty,.string ByteArray.empty,.int .i64 0,.string ByteArray.empty,.string ByteArray.empty,.int .i64 0,.string ByteArray.empty,.string ByteArray.empty,.int .i64 0,.string ByteArray.empty,.string ByteArray.empty,.int .i64 0,.string ByteArray.empty,.string ByteArray.empty,.int .i64 0,.string ByteArray.empty,.string ByteArray.empty,.int .i64 0,.string ByteArray.empty,.string ByteArray.empty,.int .i64 0,.string ByteArray.empty,.string ByteArray.empty,.int .i64 0,.string ByteArray.empty],[0,0,0,0,0,0,0,0,0,0,0,0,0,0,0,0,0,0,0,0,0,0,0,0,0,0,0,0,0,0,0,0,0],false⟩
 | 211=>some ⟨.map 9 4,1,8,[.map none],[0],false⟩
 | 215=>some ⟨.struct [(9,0),(3,1),(3,2),(3,3)],4,40,[.string ByteArray.empty,.int .i64 0,.int .i64 0,.int .i64 0],[0,0,0,0],true⟩
 | 216=>some ⟨.struct [(9,0),(3,1),(3,2),(3,3)],4,40,[.string ByteArray.empty,.int .i64 0,.int .i64 0,.int .i64 0],[0,0,0,0],true⟩
 | 222=>some ⟨.map 9 3,1,8,[.map none],[0],false⟩
 | 230=>some ⟨.int .u64,1,8,[.int .u64 0],[0],false⟩
 | 238=>some ⟨.int .u32,1,4,[.int .u32 0],[0],false⟩
 | 241=>some ⟨.array 29 216,116,1160,[.string ByteArray.empty,.int .i64 0,.int .i64 0,.int .i64 0,.string ByteArray.empty,.int .i64 0,.int .i64 0,.int .i64 0,.string ByteArray.empty,.int .i64 0,.int .i64 0,.int .i64 0,.string ByteArray.empty,.int .i64 0,.int .i64 0,.int .i64 0,.string ByteArray.empty,.int .i64 0,.int .i64 0,.int .i64 0,.string ByteArray.empty,.int .i64 0,.int .i64 0,.int .i64 0,.string ByteArray.empty,.int .i64 0,.int .i64 0,.int .i64 0,.string ByteArray.empty,.int .i64 0,.int .i64 0,.int .i64 0,.string ByteArray.empty,.int .i64 0,.int .i64 0,.int .i64 0,.string ByteArray.empty,.int .i64 0,.int .i64 0,.int .i64 0,.string ByteArray.empty,.int .i64 0,.int .i64 0,.int .i64 0,.string ByteArray.empty,.int .i64 0,.int .i64 0,.int .i64 0,.string ByteArray.empty,.int .i64 0,.int .i64 0,.int .i64 0,.string ByteArray.empty,.int .i64 0,.int .i64 0,.int .i64 0,.string ByteArray.empty,.int .i64 0,.int .i64 0,.int .i64 0,.string ByteArray.empty,.int .i64 0,.int .i64 0,.int .i64 0,.string ByteArray.empty,.int .i64 0,.int .i64 0,.int .i64 0,.string ByteArray.empty,.int .i64 0,.int .i64 0,.int .i64 0,.string ByteArray.empty,.int .i64 0,.int .i64 0,.int .i64 0,.string ByteArray.empty,.int .i64 0,.int .i64 0,.int .i64 0,.string ByteArray.empty,.int .i64 0,.int .i64 0,.int .i64 0,.string ByteArray.empty,.int .i64 0,.int .i64 0,.int .i64 0,.string ByteArray.empty,.int .i64 0,.int .i64 0,.int .i64 0,.string ByteArray.empty,.int .i64 0,.int .i64 0,.int .i64 0,.string ByteArray.empty,.int .i64 0,.int .i64 0,.int .i64 0,.string ByteArray.empty,.int .i64 0,.int .i64 0,.int .i64 0,.string ByteArray.empty,.int .i64 0,.int .i64 0,.int .i64 0,.string ByteArray.empty,.int .i64 0,.int .i64 0,.int .i64 0,.string ByteArray.empty,.int .i64 0,.int .i64 0,.int .i64 0],[0,0,0,0,0,0,0,0,0,0,0,0,0,0,0,0,0,0,0,0,0,0,0,0,0,0,0,0,0,0,0,0,0,0,0,0,0,0,0,0,0,0,0,0,0,0,0,0,0,0,0,0,0,0,0,0,0,0,0,0,0,0,0,0,0,0,0,0,0,0,0,0,0,0,0,0,0,0,0,0,0,0,0,0,0,0,0,0,0,0,0,0,0,0,0,0,0,0,0,0,0,0,0,0,0,0,0,0,0,0,0,0,0,0,0,0],false⟩
 | 249=>some ⟨.array 24 5,24,24,[.int .u8 0,.int .u8 0,.int .u8 0,.int .u8 0,.int .u8 0,.int .u8 0,.int .u8 0,.int .u8 0,.int .u8 0,.int .u8 0,.int .u8 0,.int .u8 0,.int .u8 0,.int .u8 0,.int .u8 0,.int .u8 0,.int .u8 0,.int .u8 0,.int .u8 0,.int .u8 0,.int .u8 0,.int .u8 0,.int .u8 0,.int .u8 0],[0,0,0,0,0,0,0,0,0,0,0,0,0,0,0,0,0,0,0,0,0,0,0,0],false⟩
 | 250=>some ⟨.int .u64,1,8,[.int .u64 0],[0],false⟩
 | 257=>some ⟨.array 20 250,20,160,[.int .u64 0,.int .u64 0,.int .u64 0,.int .u64 0,.int .u64 0,.int .u64 0,.int .u64 0,.int .u64 0,.int .u64 0,.int .u64 0,.int .u64 0,.int .u64 0,.int .u64 0,.int .u64 0,.int .u64 0,.int .u64 0,.int .u64 0,.int .u64 0,.int .u64 0,.int .u64 0],[0,0,0,0,0,0,0,0,0,0,0,0,0,0,0,0,0,0,0,0],false⟩
 | 258=>some ⟨.array 65 5,65,65,[.int .u8 0,.int .u8 0,.int .u8 0,.int .u8 0,.int .u8 0,.int .u8 0,.int .u8 0,.int .u8 0,.int .u8 0,.int .u8 0,.int .u8 0,.int .u8 0,.int .u8 0,.int .u8 0,.int .u8 0,.int .u8 0,.int .u8 0,.int .u8 0,.int .u8 0,.int .u8 0,.int .u8 0,.int .u8 0,.int .u8 0,.int .u8 0,.int .u8 0,.int .u8 0,.int .u8 0,.int .u8 0,.int .u8 0,.int .u8 0,.int .u8 0,.int .u8 0,.int .u8 0,.int .u8 0,.int .u8 0,.int .u8 0,.int .u8 0,.int .u8 0,.int .u8 0,.int .u8 0,.int .u8 0,.int .u8 0,.int .u8 0,.int .u8 0,.int .u8 0,.int .u8 0,.int .u8 0,.int .u8 0,.int .u8 0,.int .u8 0,.int .u8 0,.int .u8 0,.int .u8 0,.int .u8 0,.int .u8 0,.int .u8 0,.int .u8 0,.int .u8 0,.int .u8 0,.int .u8 0,.int .u8 0,.int .u8 0,.int .u8 0,.int .u8 0,.int .u8 0],[0,0,0,0,0,0,0,0,0,0,0,0,0,0,0,0,0,0,0,0,0,0,0,0,0,0,0,0,0,0,0,0,0,0,0,0,0,0,0,0,0,0,0,0,0,0,0,0,0,0,0,0,0,0,0,0,0,0,0,0,0,0,0,0,0],false⟩
 | 261=>some ⟨.array 32 5,32,32,[.int .u8 0,.int .u8 0,.int .u8 0,.int .u8 0,.int .u8 0,.int .u8 0,.int .u8 0,.int .u8 0,.int .u8 0,.int .u8 0,.int .u8 0,.int .u8 0,.int .u8 0,.int .u8 0,.int .u8 0,.int .u8 0,.int .u8 0,.int .u8 0,.int .u8 0,.int .u8 0,.int .u8 0,.int .u8 0,.int .u8 0,.int .u8 0,.int .u8 0,.int .u8 0,.int .u8 0,.int .u8 0,.int .u8 0,.int .u8 0,.int .u8 0,.int .u8 0],[0,0,0,0,0,0,0,0,0,0,0,0,0,0,0,0,0,0,0,0,0,0,0,0,0,0,0,0,0,0,0,0],false⟩
 | 262=>some ⟨.array 64 5,64,64,[.int .u8 0,.int .u8 0,.int .u8 0,.int .u8 0,.int .u8 0,.int .u8 0,.int .u8 0,.int .u8 0,.int .u8 0,.int .u8 0,.int .u8 0,.int .u8 0,.int .u8 0,.int .u8 0,.int .u8 0,.int .u8 0,.int .u8 0,.int .u8 0,.int .u8 0,.int .u8 0,.int .u8 0,.int .u8 0,.int .u8 0,.int .u8 0,.int .u8 0,.int .u8 0,.int .u8 0,.int .u8 0,.int .u8 0,.int .u8 0,.int .u8 0,.int .u8 0,.int .u8 0,.int .u8 0,.int .u8 0,.int .u8 0,.int .u8 0,.int .u8 0,.int .u8 0,.int .u8 0,.int .u8 0,.int .u8 0,.int .u8 0,.int .u8 0,.int .u8 0,.int .u8 0,.int .u8 0,.int .u8 0,.int .u8 0,.int .u8 0,.int .u8 0,.int .u8 0,.int .u8 0,.int .u8 0,.int .u8 0,.int .u8 0,.int .u8 0,.int .u8 0,.int .u8 0,.int .u8 0,.int .u8 0,.int .u8 0,.int .u8 0,.int .u8 0],[0,0,0,0,0,0,0,0,0,0,0,0,0,0,0,0,0,0,0,0,0,0,0,0,0,0,0,0,0,0,0,0,0,0,0,0,0,0,0,0,0,0,0,0,0,0,0,0,0,0,0,0,0,0,0,0,0,0,0,0,0,0,0,0],false⟩
 | 272=>some ⟨.pointer 5,1,8,[.pointer none],[0],false⟩
 | _=>none
theorem tinfo24:(Tryz.prog.info? 24).map (fun i=>(i.size,i.bytes,i.zero))=some (3,32,some (.agg #[.string ByteArray.empty,.int .i64 0,.bool false])):=by kernel_rfl
theorem tflat24:Tryz.prog.stoodInHeld 24=false/\Tryz.prog.eqGuardType Tryz.prog.depth 24=false:=⟨by kernel_rfl,by kernel_rfl⟩
theorem tok24:TOk Tryz.prog 24 ⟨.struct [(9,0),(3,1),(4,2)],3,32,[.string ByteArray.empty,.int .i64 0,.bool false],[0,0,0],true⟩:=⟨by obtain ⟨i,h1,h2⟩:=Option.map_eq_some_iff.1 tinfo24;simp only [Prod.mk.injEq] at h2;exact ⟨i,h1,h2.1,h2.2.1,_,h2.2.2,rfl⟩,rfl,by simp [one],⟨_,Tryz.underlying24,rfl⟩,(fun _=>⟨tflat24.1,tflat24.2,fun fs hfs=>by rw [Tryz.underlying24] at hfs;cases hfs;simp⟩),(fun h=>by cases h)⟩
theorem tinfo25:(Tryz.prog.info? 25).map (fun i=>(i.size,i.bytes,i.zero))=some (3,32,some (.agg #[.string ByteArray.empty,.int .i64 0,.bool false])):=by kernel_rfl
theorem tflat25:Tryz.prog.stoodInHeld 25=false/\Tryz.prog.eqGuardType Tryz.prog.depth 25=false:=⟨by kernel_rfl,by kernel_rfl⟩
theorem tok25:TOk Tryz.prog 25 ⟨.struct [(9,0),(3,1),(4,2)],3,32,[.string ByteArray.empty,.int .i64 0,.bool false],[0,0,0],true⟩:=⟨by obtain ⟨i,h1,h2⟩:=Option.map_eq_some_iff.1 tinfo25;simp only [Prod.mk.injEq] at h2;exact ⟨i,h1,h2.1,h2.2.1,_,h2.2.2,rfl⟩,rfl,by simp [one],⟨_,Tryz.underlying25,rfl⟩,(fun _=>⟨tflat25.1,tflat25.2,fun fs hfs=>by rw [Tryz.underlying25] at hfs;cases hfs;simp⟩),(fun h=>by cases h)⟩
theorem tinfo44:(Tryz.prog.info? 44).map (fun i=>(i.size,i.bytes,i.zero))=some (3,32,some (.agg #[.int .i64 0,.int .i64 0,.string ByteArray.empty])):=by kernel_rfl
theorem tflat44:Tryz.prog.stoodInHeld 44=false/\Tryz.prog.eqGuardType Tryz.prog.depth 44=false:=⟨by kernel_rfl,by kernel_rfl⟩
theorem tok44:TOk Tryz.prog 44 ⟨.struct [(3,0),(2,1),(9,2)],3,32,[.int .i64 0,.int .i64 0,.string ByteArray.empty],[0,0,0],true⟩:=⟨by obtain ⟨i,h1,h2⟩:=Option.map_eq_some_iff.1 tinfo44;simp only [Prod.mk.injEq] at h2;exact ⟨i,h1,h2.1,h2.2.1,_,h2.2.2,rfl⟩,rfl,by simp [one],⟨_,Tryz.underlying44,rfl⟩,(fun _=>⟨tflat44.1,tflat44.2,fun fs hfs=>by rw [Tryz.underlying44] at hfs;cases hfs;simp⟩),(fun h=>by cases h)⟩
theorem tinfo45:(Tryz.prog.info? 45).map (fun i=>(i.size,i.bytes,i.zero))=some (3,32,some (.agg #[.int .i64 0,.int .i64 0,.string ByteArray.empty])):=by kernel_rfl
theorem tflat45:Tryz.prog.stoodInHeld 45=false/\Tryz.prog.eqGuardType Tryz.prog.depth 45=false:=⟨by kernel_rfl,by kernel_rfl⟩
theorem tok45:TOk Tryz.prog 45 ⟨.struct [(3,0),(2,1),(9,2)],3,32,[.int .i64 0,.int .i64 0,.string ByteArray.empty],[0,0,0],true⟩:=⟨by obtain ⟨i,h1,h2⟩:=Option.map_eq_some_iff.1 tinfo45;simp only [Prod.mk.injEq] at h2;exact ⟨i,h1,h2.1,h2.2.1,_,h2.2.2,rfl⟩,rfl,by simp [one],⟨_,Tryz.underlying45,rfl⟩,(fun _=>⟨tflat45.1,tflat45.2,fun fs hfs=>by rw [Tryz.underlying45] at hfs;cases hfs;simp⟩),(fun h=>by cases h)⟩
theorem tinfo172:(Tryz.prog.info? 172).map (fun i=>(i.size,i.bytes,i.zero))=some (5,40,some (.agg #[.int .i64 0,.int .i64 0,.int .i64 0,.int .i64 0,.int .i64 0])):=by kernel_rfl
theorem tflat172:Tryz.prog.stoodInHeld 172=false/\Tryz.prog.eqGuardType Tryz.prog.depth 172=false:=⟨by kernel_rfl,by kernel_rfl⟩
theorem tok172:TOk Tryz.prog 172 ⟨.struct [(3,0),(3,1),(3,2),(3,3),(3,4)],5,40,[.int .i64 0,.int .i64 0,.int .i64 0,.int .i64 0,.int .i64 0],[0,0,0,0,0],true⟩:=⟨by obtain ⟨i,h1,h2⟩:=Option.map_eq_some_iff.1 tinfo172;simp only [Prod.mk.injEq] at h2;exact ⟨i,h1,h2.1,h2.2.1,_,h2.2.2,rfl⟩,rfl,by simp [one],⟨_,Tryz.underlying172,rfl⟩,(fun _=>⟨tflat172.1,tflat172.2,fun fs hfs=>by rw [Tryz.underlying172] at hfs;cases hfs;simp⟩),(fun h=>by cases h)⟩
theorem tinfo173:(Tryz.prog.info? 173).map (fun i=>(i.size,i.bytes,i.zero))=some (5,40,some (.agg #[.int .i64 0,.int .i64 0,.int .i64 0,.int .i64 0,.int .i64 0])):=by kernel_rfl
theorem tflat173:Tryz.prog.stoodInHeld 173=false/\Tryz.prog.eqGuardType Tryz.prog.depth 173=false:=⟨by kernel_rfl,by kernel_rfl⟩
theorem tok173:TOk Tryz.prog 173 ⟨.struct [(3,0),(3,1),(3,2),(3,3),(3,4)],5,40,[.int .i64 0,.int .i64 0,.int .i64 0,.int .i64 0,.int .i64 0],[0,0,0,0,0],true⟩:=⟨by obtain ⟨i,h1,h2⟩:=Option.map_eq_some_iff.1 tinfo173;simp only [Prod.mk.injEq] at h2;exact ⟨i,h1,h2.1,h2.2.1,_,h2.2.2,rfl⟩,rfl,by simp [one],⟨_,Tryz.underlying173,rfl⟩,(fun _=>⟨tflat173.1,tflat173.2,fun fs hfs=>by rw [Tryz.underlying173] at hfs;cases hfs;simp⟩),(fun h=>by cases h)⟩
theorem tinfo183:(Tryz.prog.info? 183).map (fun i=>(i.size,i.bytes,i.zero))=some (3,40,some (.agg #[.string ByteArray.empty,.int .i64 0,.string ByteArray.empty])):=by kernel_rfl
theorem tflat183:Tryz.prog.stoodInHeld 183=false/\Tryz.prog.eqGuardType Tryz.prog.depth 183=false:=⟨by kernel_rfl,by kernel_rfl⟩
theorem tok183:TOk Tryz.prog 183 ⟨.struct [(9,0),(3,1),(9,2)],3,40,[.string ByteArray.empty,.int .i64 0,.string ByteArray.empty],[0,0,0],true⟩:=⟨by obtain ⟨i,h1,h2⟩:=Option.map_eq_some_iff.1 tinfo183;simp only [Prod.mk.injEq] at h2;exact ⟨i,h1,h2.1,h2.2.1,_,h2.2.2,rfl⟩,rfl,by simp [one],⟨_,Tryz.underlying183,rfl⟩,(fun _=>⟨tflat183.1,tflat183.2,fun fs hfs=>by rw [Tryz.underlying183] at hfs;cases hfs;simp⟩),(fun h=>by cases h)⟩
theorem tinfo184:(Tryz.prog.info? 184).map (fun i=>(i.size,i.bytes,i.zero))=some (3,40,some (.agg #[.string ByteArray.empty,.int .i64 0,.string ByteArray.empty])):=by kernel_rfl
theorem tflat184:Tryz.prog.stoodInHeld 184=false/\Tryz.prog.eqGuardType Tryz.prog.depth 184=false:=⟨by kernel_rfl,by kernel_rfl⟩
theorem tok184:TOk Tryz.prog 184 ⟨.struct [(9,0),(3,1),(9,2)],3,40,[.string ByteArray.empty,.int .i64 0,.string ByteArray.empty],[0,0,0],true⟩:=⟨by obtain ⟨i,h1,h2⟩:=Option.map_eq_some_iff.1 tinfo184;simp only [Prod.mk.injEq] at h2;exact ⟨i,h1,h2.1,h2.2.1,_,h2.2.2,rfl⟩,rfl,by simp [one],⟨_,Tryz.underlying184,rfl⟩,(fun _=>⟨tflat184.1,tflat184.2,fun fs hfs=>by rw [Tryz.underlying184] at hfs;cases hfs;simp⟩),(fun h=>by cases h)⟩
theorem tinfo215:(Tryz.prog.info? 215).map (fun i=>(i.size,i.bytes,i.zero))=some (4,40,some (.agg #[.string ByteArray.empty,.int .i64 0,.int .i64 0,.int .i64 0])):=by kernel_rfl
theorem tflat215:Tryz.prog.stoodInHeld 215=false/\Tryz.prog.eqGuardType Tryz.prog.depth 215=false:=⟨by kernel_rfl,by kernel_rfl⟩
theorem tok215:TOk Tryz.prog 215 ⟨.struct [(9,0),(3,1),(3,2),(3,3)],4,40,[.string ByteArray.empty,.int .i64 0,.int .i64 0,.int .i64 0],[0,0,0,0],true⟩:=⟨by obtain ⟨i,h1,h2⟩:=Option.map_eq_some_iff.1 tinfo215;simp only [Prod.mk.injEq] at h2;exact ⟨i,h1,h2.1,h2.2.1,_,h2.2.2,rfl⟩,rfl,by simp [one],⟨_,Tryz.underlying215,rfl⟩,(fun _=>⟨tflat215.1,tflat215.2,fun fs hfs=>by rw [Tryz.underlying215] at hfs;cases hfs;simp⟩),(fun h=>by cases h)⟩
theorem tinfo216:(Tryz.prog.info? 216).map (fun i=>(i.size,i.bytes,i.zero))=some (4,40,some (.agg #[.string ByteArray.empty,.int .i64 0,.int .i64 0,.int .i64 0])):=by kernel_rfl
theorem tflat216:Tryz.prog.stoodInHeld 216=false/\Tryz.prog.eqGuardType Tryz.prog.depth 216=false:=⟨by kernel_rfl,by kernel_rfl⟩
theorem tok216:TOk Tryz.prog 216 ⟨.struct [(9,0),(3,1),(3,2),(3,3)],4,40,[.string ByteArray.empty,.int .i64 0,.int .i64 0,.int .i64 0],[0,0,0,0],true⟩:=⟨by obtain ⟨i,h1,h2⟩:=Option.map_eq_some_iff.1 tinfo216;simp only [Prod.mk.injEq] at h2;exact ⟨i,h1,h2.1,h2.2.1,_,h2.2.2,rfl⟩,rfl,by simp [one],⟨_,Tryz.underlying216,rfl⟩,(fun _=>⟨tflat216.1,tflat216.2,fun fs hfs=>by rw [Tryz.underlying216] at hfs;cases hfs;simp⟩),(fun h=>by cases h)⟩
theorem tte:tt 2=some ⟨.int .i64,1,8,[.int .i64 0],[0],false⟩/\tt 3=some ⟨.int .i64,1,8,[.int .i64 0],[0],false⟩/\tt 4=some ⟨.bool,1,1,[.bool false],[0],false⟩/\tt 5=some ⟨.int .u8,1,1,[.int .u8 0],[0],false⟩/\tt 9=some ⟨.string,1,16,[.string ByteArray.empty],[0],false⟩/\tt 12=some ⟨.int .u64,1,8,[.int .u64 0],[0],false⟩/\tt 13=some ⟨.struct [(9,0),(12,1)],2,24,[.string ByteArray.empty,.int .u64 0],[0,0],false⟩/\tt 21=some ⟨.int .i32,1,4,[.int .i32 0],[0],false⟩/\tt 22=some ⟨.slice 3,1,24,[.slice none 0 0],[1],false⟩/\tt 24=some ⟨.struct [(9,0),(3,1),(4,2)],3,32,[.string ByteArray.empty,.int .i64 0,.bool false],[0,0,0],true⟩/\tt 25=some ⟨.struct [(9,0),(3,1),(4,2)],3,32,[.string ByteArray.empty,.int .i64 0,.bool false],[0,0,0],true⟩/\tt 26=some ⟨.slice 25,1,24,[.slice none 0 0],[3],false⟩/\tt 27=some ⟨.slice 22,1,24,[.slice none 0 0],[1],false⟩/\tt 28=some ⟨.slice 87,1,24,[.slice none 0 0],[2],false⟩/\tt 29=some ⟨.slice 52,1,24,[.slice none 0 0],[6],false⟩/\tt 30=some ⟨.struct [(9,0),(26,1),(22,2),(27,3),(28,4),(29,5)],6,136,[.string ByteArray.empty,.slice none 0 0,.slice none 0 0,.slice none 0 0,.slice none 0 0,.slice none 0 0],[0,3,1,1,2,6],false⟩/\tt 31=some ⟨.struct [(9,0),(26,1),(22,2),(27,3),(28,4),(29,5)],6,136,[.string ByteArray.empty,.slice none 0 0,.slice none 0 0,.slice none 0 0,.slice none 0 0,.slice none 0 0],[0,3,1,1,2,6],false⟩/\tt 32=some ⟨.slice 31,1,24,[.slice none 0 0],[6],false⟩/\tt 33=some ⟨.struct [(32,0)],1,24,[.slice none 0 0],[6],false⟩/\tt 34=some ⟨.struct [(32,0)],1,24,[.slice none 0 0],[6],false⟩/\tt 35=some ⟨.slice 42,1,24,[.slice none 0 0],[1,35,37],false⟩/\tt 36=some ⟨.struct [(35,0)],1,24,[.slice none 0 0],[1],false⟩/\tt 37=some ⟨.struct [(35,0)],1,24,[.slice none 0 0],[1],false⟩/\tt 38=some ⟨.int .i64,1,8,[.int .i64 0],[0],false⟩/\tt 42=some ⟨.slice 43,1,24,[.slice none 0 0],[1],false⟩/\tt 43=some ⟨.slice 45,1,24,[.slice none 0 0],[3],false⟩/\tt 44=some ⟨.struct [(3,0),(2,1),(9,2)],3,32,[.int .i64 0,.int .i64 0,.string ByteArray.empty],[0,0,0],true⟩/\tt 45=some ⟨.struct [(3,0),(2,1),(9,2)],3,32,[.int .i64 0,.int .i64 0,.string ByteArray.empty],[0,0,0],true⟩/\tt 51=some ⟨.struct [(3,0),(3,1),(2,2),(9,3),(3,4),(29,5)],6,72,[.int .i64 0,.int .i64 0,.int .i64 0,.string ByteArray.empty,.int .i64 0,.slice none 0 0],[0,0,0,0,0,6],false⟩/\tt 52=some ⟨.struct [(3,0),(3,1),(2,2),(9,3),(3,4),(29,5)],6,72,[.int .i64 0,.int .i64 0,.int .i64 0,.string ByteArray.empty,.int .i64 0,.slice none 0 0],[0,0,0,0,0,6],false⟩/\tt 53=some ⟨.slice 119,1,24,[.slice none 0 0],[7],false⟩/\tt 54=some ⟨.slice 56,1,24,[.slice none 0 0],[15],false⟩/\tt 55=some ⟨.struct [(3,0),(9,1),(3,2),(4,3),(52,4),(29,10),(53,11),(22,12),(42,13),(54,14)],15,232,[.int .i64 0,.string ByteArray.empty,.int .i64 0,.bool false,.int .i64 0,.int .i64 0,.int .i64 0,.string ByteArray.empty,.int .i64 0,.slice none 0 0,.slice none 0 0,.slice none 0 0,.slice none 0 0,.slice none 0 0,.slice none 0 0],[0,0,0,0,0,0,0,0,0,6,6,7,1,1,15],false⟩/\tt 56=some ⟨.struct [(3,0),(9,1),(3,2),(4,3),(52,4),(29,10),(53,11),(22,12),(42,13),(54,14)],15,232,[.int .i64 0,.string ByteArray.empty,.int .i64 0,.bool false,.int .i64 0,.int .i64 0,.int .i64 0,.string ByteArray.empty,.int .i64 0,.slice none 0 0,.slice none 0 0,.slice none 0 0,.slice none 0 0,.slice none 0 0,.slice none 0 0],[0,0,0,0,0,0,0,0,0,6,6,7,1,1,15],false⟩/\tt 69=some ⟨.pointer 106,1,8,[.pointer none],[0],false⟩/\tt 74=some ⟨.slice 34,1,24,[.slice none 0 0],[1],false⟩/\tt 80=some ⟨.pointer 124,1,8,[.pointer none],[0],false⟩/\tt 86=some ⟨.struct [(22,0),(9,1)],2,40,[.slice none 0 0,.string ByteArray.empty],[1,0],false⟩/\tt 87=some ⟨.struct [(22,0),(9,1)],2,40,[.slice none 0 0,.string ByteArray.empty],[1,0],false⟩/\tt 93=some ⟨.slice 173,1,24,[.slice none 0 0],[5],false⟩/\tt 97=some ⟨.struct [(80,0),(34,1)],2,32,[.pointer none,.slice none 0 0],[0,6],false⟩/\tt 98=some ⟨.struct [(80,0),(34,1)],2,32,[.pointer none,.slice none 0 0],[0,6],false⟩/\tt 101=some ⟨.struct [(80,0),(22,1)],2,32,[.pointer none,.slice none 0 0],[0,1],false⟩/\tt 102=some ⟨.struct [(80,0),(22,1)],2,32,[.pointer none,.slice none 0 0],[0,1],false⟩/\tt 105=some ⟨.struct [(22,0),(3,1)],2,32,[.slice none 0 0,.int .i64 0],[1,0],false⟩/\tt 106=some ⟨.struct [(22,0),(3,1)],2,32,[.slice none 0 0,.int .i64 0],[1,0],false⟩/\tt 107=some ⟨.pointer 155,1,8,[.pointer none],[0],false⟩/\tt 111=some ⟨.slice 5,1,24,[.slice none 0 0],[1],false⟩/\tt 118=some ⟨.struct [(3,0),(52,1)],7,80,[.int .i64 0,.int .i64 0,.int .i64 0,.int .i64 0,.string ByteArray.empty,.int .i64 0,.slice none 0 0],[0,0,0,0,0,0,6],false⟩/\tt 119=some ⟨.struct [(3,0),(52,1)],7,80,[.int .i64 0,.int .i64 0,.int .i64 0,.int .i64 0,.string ByteArray.empty,.int .i64 0,.slice none 0 0],[0,0,0,0,0,0,6],false⟩/\tt 123=some ⟨.struct [(22,0),(3,1)],2,32,[.slice none 0 0,.int .i64 0],[1,0],false⟩/\tt 124=some ⟨.struct [(22,0),(3,1)],2,32,[.slice none 0 0,.int .i64 0],[1,0],false⟩/\tt 125=some ⟨.slice 126,1,24,[.slice none 0 0],[1],false⟩/\tt 126=some ⟨.map 3 4,1,8,[.map none],[0],false⟩/\tt 129=some ⟨.array 4 9,4,64,[.string ByteArray.empty,.string ByteArray.empty,.string ByteArray.empty,.string ByteArray.empty],[0,0,0,0],false⟩/\tt 130=some ⟨.slice 9,1,24,[.slice none 0 0],[1],false⟩/\tt 135=some ⟨.slice 4,1,24,[.slice none 0 0],[1],false⟩/\tt 154=some ⟨.struct [(22,0),(3,1)],2,32,[.slice none 0 0,.int .i64 0],[1,0],false⟩/\tt 155=some ⟨.struct [(22,0),(3,1)],2,32,[.slice none 0 0,.int .i64 0],[1,0],false⟩/\tt 167=some ⟨.pointer 169,1,8,[.pointer none],[0],false⟩/\tt 168=some ⟨.struct [(34,0),(37,1),(135,2),(93,3)],4,96,[.slice none 0 0,.slice none 0 0,.slice none 0 0,.slice none 0 0],[6,1,1,5],false⟩/\tt 169=some ⟨.struct [(34,0),(37,1),(135,2),(93,3)],4,96,[.slice none 0 0,.slice none 0 0,.slice none 0 0,.slice none 0 0],[6,1,1,5],false⟩/\tt 172=some ⟨.struct [(3,0),(3,1),(3,2),(3,3),(3,4)],5,40,[.int .i64 0,.int .i64 0,.int .i64 0,.int .i64 0,.int .i64 0],[0,0,0,0,0],true⟩/\tt 173=some ⟨.struct [(3,0),(3,1),(3,2),(3,3),(3,4)],5,40,[.int .i64 0,.int .i64 0,.int .i64 0,.int .i64 0,.int .i64 0],[0,0,0,0,0],true⟩/\tt 181=some ⟨.array 3 3,3,24,[.int .i64 0,.int .i64 0,.int .i64 0],[0,0,0],false⟩/\tt 183=some ⟨.struct [(9,0),(3,1),(9,2)],3,40,[.string ByteArray.empty,.int .i64 0,.string ByteArray.empty],[0,0,0],true⟩/\tt 184=some ⟨.struct [(9,0),(3,1),(9,2)],3,40,[.string ByteArray.empty,.int .i64 0,.string ByteArray.empty],[0,0,0],true⟩/\tt 210=some ⟨.array 11 184,33,440,[.string ByteArray.empty,.int .i64 0,.string ByteArray.empty,.string ByteArray.empty,.int .i64 0,.string ByteArray.empty,.string ByteArray.empty,.int .i64 0,.string ByteArray.empty,.string ByteArray.empty,.int .i64 0,.string ByteArray.empty,.string ByteArray.empty,.int .i64 0,.string ByteArray.empty,.string ByteArray.empty,.int .i64 0,.string ByteArray.empty,.string ByteArray.empty,.int .i64 0,.string ByteArray.empty,.string ByteArray.empty,.int .i64 0,.string ByteArray.empty,.string ByteArray.empty,.int .i64 0,.string ByteArray.empty,.string ByteArray.empty,.int .i64 0,.string ByteArray.empty,.string ByteArray.empty,.int .i64 0,.string ByteArray.empty],[0,0,0,0,0,0,0,0,0,0,0,0,0,0,0,0,0,0,0,0,0,0,0,0,0,0,0,0,0,0,0,0,0],false⟩/\tt 211=some ⟨.map 9 4,1,8,[.map none],[0],false⟩/\tt 215=some ⟨.struct [(9,0),(3,1),(3,2),(3,3)],4,40,[.string ByteArray.empty,.int .i64 0,.int .i64 0,.int .i64 0],[0,0,0,0],true⟩/\tt 216=some ⟨.struct [(9,0),(3,1),(3,2),(3,3)],4,40,[.string ByteArray.empty,.int .i64 0,.int .i64 0,.int .i64 0],[0,0,0,0],true⟩/\tt 222=some ⟨.map 9 3,1,8,[.map none],[0],false⟩/\tt 230=some ⟨.int .u64,1,8,[.int .u64 0],[0],false⟩/\tt 238=some ⟨.int .u32,1,4,[.int .u32 0],[0],false⟩/\tt 241=some ⟨.array 29 216,116,1160,[.string ByteArray.empty,.int .i64 0,.int .i64 0,.int .i64 0,.string ByteArray.empty,.int .i64 0,.int .i64 0,.int .i64 0,.string ByteArray.empty,.int .i64 0,.int .i64 0,.int .i64 0,.string ByteArray.empty,.int .i64 0,.int .i64 0,.int .i64 0,.string ByteArray.empty,.int .i64 0,.int .i64 0,.int .i64 0,.string ByteArray.empty,.int .i64 0,.int .i64 0,.int .i64 0,.string ByteArray.empty,.int .i64 0,.int .i64 0,.int .i64 0,.string ByteArray.empty,.int .i64 0,.int .i64 0,.int .i64 0,.string ByteArray.empty,.int .i64 0,.int .i64 0,.int .i64 0,.string ByteArray.empty,.int .i64 0,.int .i64 0,.int .i64 0,.string ByteArray.empty,.int .i64 0,.int .i64 0,.int .i64 0,.string ByteArray.empty,.int .i64 0,.int .i64 0,.int .i64 0,.string ByteArray.empty,.int .i64 0,.int .i64 0,.int .i64 0,.string ByteArray.empty,.int .i64 0,.int .i64 0,.int .i64 0,.string ByteArray.empty,.int .i64 0,.int .i64 0,.int .i64 0,.string ByteArray.empty,.int .i64 0,.int .i64 0,.int .i64 0,.string ByteArray.empty,.int .i64 0,.int .i64 0,.int .i64 0,.string ByteArray.empty,.int .i64 0,.int .i64 0,.int .i64 0,.string ByteArray.empty,.int .i64 0,.int .i64 0,.int .i64 0,.string ByteArray.empty,.int .i64 0,.int .i64 0,.int .i64 0,.string ByteArray.empty,.int .i64 0,.int .i64 0,.int .i64 0,.string ByteArray.empty,.int .i64 0,.int .i64 0,.int .i64 0,.string ByteArray.empty,.int .i64 0,.int .i64 0,.int .i64 0,.string ByteArray.empty,.int .i64 0,.int .i64 0,.int .i64 0,.string ByteArray.empty,.int .i64 0,.int .i64 0,.int .i64 0,.string ByteArray.empty,.int .i64 0,.int .i64 0,.int .i64 0,.string ByteArray.empty,.int .i64 0,.int .i64 0,.int .i64 0,.string ByteArray.empty,.int .i64 0,.int .i64 0,.int .i64 0,.string ByteArray.empty,.int .i64 0,.int .i64 0,.int .i64 0],[0,0,0,0,0,0,0,0,0,0,0,0,0,0,0,0,0,0,0,0,0,0,0,0,0,0,0,0,0,0,0,0,0,0,0,0,0,0,0,0,0,0,0,0,0,0,0,0,0,0,0,0,0,0,0,0,0,0,0,0,0,0,0,0,0,0,0,0,0,0,0,0,0,0,0,0,0,0,0,0,0,0,0,0,0,0,0,0,0,0,0,0,0,0,0,0,0,0,0,0,0,0,0,0,0,0,0,0,0,0,0,0,0,0,0,0],false⟩/\tt 249=some ⟨.array 24 5,24,24,[.int .u8 0,.int .u8 0,.int .u8 0,.int .u8 0,.int .u8 0,.int .u8 0,.int .u8 0,.int .u8 0,.int .u8 0,.int .u8 0,.int .u8 0,.int .u8 0,.int .u8 0,.int .u8 0,.int .u8 0,.int .u8 0,.int .u8 0,.int .u8 0,.int .u8 0,.int .u8 0,.int .u8 0,.int .u8 0,.int .u8 0,.int .u8 0],[0,0,0,0,0,0,0,0,0,0,0,0,0,0,0,0,0,0,0,0,0,0,0,0],false⟩/\tt 250=some ⟨.int .u64,1,8,[.int .u64 0],[0],false⟩/\tt 257=some ⟨.array 20 250,20,160,[.int .u64 0,.int .u64 0,.int .u64 0,.int .u64 0,.int .u64 0,.int .u64 0,.int .u64 0,.int .u64 0,.int .u64 0,.int .u64 0,.int .u64 0,.int .u64 0,.int .u64 0,.int .u64 0,.int .u64 0,.int .u64 0,.int .u64 0,.int .u64 0,.int .u64 0,.int .u64 0],[0,0,0,0,0,0,0,0,0,0,0,0,0,0,0,0,0,0,0,0],false⟩/\tt 258=some ⟨.array 65 5,65,65,[.int .u8 0,.int .u8 0,.int .u8 0,.int .u8 0,.int .u8 0,.int .u8 0,.int .u8 0,.int .u8 0,.int .u8 0,.int .u8 0,.int .u8 0,.int .u8 0,.int .u8 0,.int .u8 0,.int .u8 0,.int .u8 0,.int .u8 0,.int .u8 0,.int .u8 0,.int .u8 0,.int .u8 0,.int .u8 0,.int .u8 0,.int .u8 0,.int .u8 0,.int .u8 0,.int .u8 0,.int .u8 0,.int .u8 0,.int .u8 0,.int .u8 0,.int .u8 0,.int .u8 0,.int .u8 0,.int .u8 0,.int .u8 0,.int .u8 0,.int .u8 0,.int .u8 0,.int .u8 0,.int .u8 0,.int .u8 0,.int .u8 0,.int .u8 0,.int .u8 0,.int .u8 0,.int .u8 0,.int .u8 0,.int .u8 0,.int .u8 0,.int .u8 0,.int .u8 0,.int .u8 0,.int .u8 0,.int .u8 0,.int .u8 0,.int .u8 0,.int .u8 0,.int .u8 0,.int .u8 0,.int .u8 0,.int .u8 0,.int .u8 0,.int .u8 0,.int .u8 0],[0,0,0,0,0,0,0,0,0,0,0,0,0,0,0,0,0,0,0,0,0,0,0,0,0,0,0,0,0,0,0,0,0,0,0,0,0,0,0,0,0,0,0,0,0,0,0,0,0,0,0,0,0,0,0,0,0,0,0,0,0,0,0,0,0],false⟩/\tt 261=some ⟨.array 32 5,32,32,[.int .u8 0,.int .u8 0,.int .u8 0,.int .u8 0,.int .u8 0,.int .u8 0,.int .u8 0,.int .u8 0,.int .u8 0,.int .u8 0,.int .u8 0,.int .u8 0,.int .u8 0,.int .u8 0,.int .u8 0,.int .u8 0,.int .u8 0,.int .u8 0,.int .u8 0,.int .u8 0,.int .u8 0,.int .u8 0,.int .u8 0,.int .u8 0,.int .u8 0,.int .u8 0,.int .u8 0,.int .u8 0,.int .u8 0,.int .u8 0,.int .u8 0,.int .u8 0],[0,0,0,0,0,0,0,0,0,0,0,0,0,0,0,0,0,0,0,0,0,0,0,0,0,0,0,0,0,0,0,0],false⟩/\tt 262=some ⟨.array 64 5,64,64,[.int .u8 0,.int .u8 0,.int .u8 0,.int .u8 0,.int .u8 0,.int .u8 0,.int .u8 0,.int .u8 0,.int .u8 0,.int .u8 0,.int .u8 0,.int .u8 0,.int .u8 0,.int .u8 0,.int .u8 0,.int .u8 0,.int .u8 0,.int .u8 0,.int .u8 0,.int .u8 0,.int .u8 0,.int .u8 0,.int .u8 0,.int .u8 0,.int .u8 0,.int .u8 0,.int .u8 0,.int .u8 0,.int .u8 0,.int .u8 0,.int .u8 0,.int .u8 0,.int .u8 0,.int .u8 0,.int .u8 0,.int .u8 0,.int .u8 0,.int .u8 0,.int .u8 0,.int .u8 0,.int .u8 0,.int .u8 0,.int .u8 0,.int .u8 0,.int .u8 0,.int .u8 0,.int .u8 0,.int .u8 0,.int .u8 0,.int .u8 0,.int .u8 0,.int .u8 0,.int .u8 0,.int .u8 0,.int .u8 0,.int .u8 0,.int .u8 0,.int .u8 0,.int .u8 0,.int .u8 0,.int .u8 0,.int .u8 0,.int .u8 0,.int .u8 0],[0,0,0,0,0,0,0,0,0,0,0,0,0,0,0,0,0,0,0,0,0,0,0,0,0,0,0,0,0,0,0,0,0,0,0,0,0,0,0,0,0,0,0,0,0,0,0,0,0,0,0,0,0,0,0,0,0,0,0,0,0,0,0,0],false⟩/\tt 272=some ⟨.pointer 5,1,8,[.pointer none],[0],false⟩:=by refine ⟨?_,?_,?_,?_,?_,?_,?_,?_,?_,?_,?_,?_,?_,?_,?_,?_,?_,?_,?_,?_,?_,?_,?_,?_,?_,?_,?_,?_,?_,?_,?_,?_,?_,?_,?_,?_,?_,?_,?_,?_,?_,?_,?_,?_,?_,?_,?_,?_,?_,?_,?_,?_,?_,?_,?_,?_,?_,?_,?_,?_,?_,?_,?_,?_,?_,?_,?_,?_,?_,?_,?_,?_,?_,?_,?_,?_,?_,?_,?_,?_,?_,?_⟩<;>rfl
theorem tokS {t b:Nat} {k:TK} {v:Value} {cw:List Nat} (h:(Tryz.prog.info? t).map (fun i=>(i.size,i.bytes,i.zero))=some (1,b,some v)) (hc:v.cells= #[v]) (ho:one v=true) (hd:k.ok (Tryz.prog.underlying t)):TOk Tryz.prog t ⟨k,1,b,[v],cw,false⟩:=by
 obtain ⟨i,h1,h2⟩:=Option.map_eq_some_iff.1 h
 simp only [Prod.mk.injEq] at h2
 exact ⟨⟨i,h1,h2.1,h2.2.1,_,h2.2.2,hc⟩,rfl,fun w hw=>by rw [List.mem_singleton.1 hw];exact ho,hd,(fun h=>by cases h),fun _ z hz=>by cases hz;exact ⟨i,h1,h2.2.2⟩⟩
theorem tokA {t s b:Nat} {k:TK} {z:List Value} {cw:List Nat} (h:(Tryz.prog.info? t).map (fun i=>(i.size,i.bytes,i.zero))=some (s,b,some (.agg z.toArray))) (hl:z.length=s) (ho: ∀v∈z,one v=true) (hd:k.ok (Tryz.prog.underlying t)) (ha:(⟨k,s,b,z,cw,false⟩:TI).isAgg=true):TOk Tryz.prog t ⟨k,s,b,z,cw,false⟩:=by
 obtain ⟨i,h1,h2⟩:=Option.map_eq_some_iff.1 h
 simp only [Prod.mk.injEq] at h2
 exact ⟨⟨i,h1,h2.1,h2.2.1,_,h2.2.2,rfl⟩,hl,ho,hd,(fun h=>by cases h),fun h=>by rw [ha] at h;cases h⟩
theorem ttok:tt.ok Tryz.prog:=by
 intro t ti h
 unfold tt at h
 split at h
 ·cases h;exact tokS (by kernel_rfl) rfl rfl Tryz.underlying2
 ·cases h;exact tokS (by kernel_rfl) rfl rfl Tryz.underlying3
 ·cases h;exact tokS (by kernel_rfl) rfl rfl Tryz.underlying4
 ·cases h;exact tokS (by kernel_rfl) rfl rfl Tryz.underlying5
 ·cases h;exact tokS (by kernel_rfl) rfl rfl Tryz.underlying9
 ·cases h;exact tokS (by kernel_rfl) rfl rfl Tryz.underlying12
 ·cases h;exact tokA (by kernel_rfl) rfl (by simp [one]) ⟨_,Tryz.underlying13,rfl⟩ rfl
 ·cases h;exact tokS (by kernel_rfl) rfl rfl Tryz.underlying21
 ·cases h;exact tokS (by kernel_rfl) rfl rfl Tryz.underlying22
 ·cases h;exact tok24
 ·cases h;exact tok25
 ·cases h;exact tokS (by kernel_rfl) rfl rfl Tryz.underlying26
 ·cases h;exact tokS (by kernel_rfl) rfl rfl Tryz.underlying27
 ·cases h;exact tokS (by kernel_rfl) rfl rfl Tryz.underlying28
 ·cases h;exact tokS (by kernel_rfl) rfl rfl Tryz.underlying29
 ·cases h;exact tokA (by kernel_rfl) rfl (by simp [one]) ⟨_,Tryz.underlying30,rfl⟩ rfl
 ·cases h;exact tokA (by kernel_rfl) rfl (by simp [one]) ⟨_,Tryz.underlying31,rfl⟩ rfl
 ·cases h;exact tokS (by kernel_rfl) rfl rfl Tryz.underlying32
 ·cases h;exact tokA (by kernel_rfl) rfl (by simp [one]) ⟨_,Tryz.underlying33,rfl⟩ rfl
 ·cases h;exact tokA (by kernel_rfl) rfl (by simp [one]) ⟨_,Tryz.underlying34,rfl⟩ rfl
 ·cases h;exact tokS (by kernel_rfl) rfl rfl Tryz.underlying35
 ·cases h;exact tokA (by kernel_rfl) rfl (by simp [one]) ⟨_,Tryz.underlying36,rfl⟩ rfl
 ·cases h;exact tokA (by kernel_rfl) rfl (by simp [one]) ⟨_,Tryz.underlying37,rfl⟩ rfl
 ·cases h;exact tokS (by kernel_rfl) rfl rfl Tryz.underlying38
 ·cases h;exact tokS (by kernel_rfl) rfl rfl Tryz.underlying42
 ·cases h;exact tokS (by kernel_rfl) rfl rfl Tryz.underlying43
 ·cases h;exact tok44
 ·cases h;exact tok45
 ·cases h;exact tokA (by kernel_rfl) rfl (by simp [one]) ⟨_,Tryz.underlying51,rfl⟩ rfl
 ·cases h;exact tokA (by kernel_rfl) rfl (by simp [one]) ⟨_,Tryz.underlying52,rfl⟩ rfl
 ·cases h;exact tokS (by kernel_rfl) rfl rfl Tryz.underlying53
 ·cases h;exact tokS (by kernel_rfl) rfl rfl Tryz.underlying54
 ·cases h;exact tokA (by kernel_rfl) rfl (by simp [one]) ⟨_,Tryz.underlying55,rfl⟩ rfl
 ·cases h;exact tokA (by kernel_rfl) rfl (by simp [one]) ⟨_,Tryz.underlying56,rfl⟩ rfl
 ·cases h;exact tokS (by kernel_rfl) rfl rfl Tryz.underlying69
 ·cases h;exact tokS (by kernel_rfl) rfl rfl Tryz.underlying74
 ·cases h;exact tokS (by kernel_rfl) rfl rfl Tryz.underlying80
 ·cases h;exact tokA (by kernel_rfl) rfl (by simp [one]) ⟨_,Tryz.underlying86,rfl⟩ rfl
 ·cases h;exact tokA (by kernel_rfl) rfl (by simp [one]) ⟨_,Tryz.underlying87,rfl⟩ rfl
 ·cases h;exact tokS (by kernel_rfl) rfl rfl Tryz.underlying93
 ·cases h;exact tokA (by kernel_rfl) rfl (by simp [one]) ⟨_,Tryz.underlying97,rfl⟩ rfl
 ·cases h;exact tokA (by kernel_rfl) rfl (by simp [one]) ⟨_,Tryz.underlying98,rfl⟩ rfl
 ·cases h;exact tokA (by kernel_rfl) rfl (by simp [one]) ⟨_,Tryz.underlying101,rfl⟩ rfl
 ·cases h;exact tokA (by kernel_rfl) rfl (by simp [one]) ⟨_,Tryz.underlying102,rfl⟩ rfl
 ·cases h;exact tokA (by kernel_rfl) rfl (by simp [one]) ⟨_,Tryz.underlying105,rfl⟩ rfl
 ·cases h;exact tokA (by kernel_rfl) rfl (by simp [one]) ⟨_,Tryz.underlying106,rfl⟩ rfl
 ·cases h;exact tokS (by kernel_rfl) rfl rfl Tryz.underlying107
 ·cases h;exact tokS (by kernel_rfl) rfl rfl Tryz.underlying111
 ·cases h;exact tokA (by kernel_rfl) rfl (by simp [one]) ⟨_,Tryz.underlying118,rfl⟩ rfl
 ·cases h;exact tokA (by kernel_rfl) rfl (by simp [one]) ⟨_,Tryz.underlying119,rfl⟩ rfl
 ·cases h;exact tokA (by kernel_rfl) rfl (by simp [one]) ⟨_,Tryz.underlying123,rfl⟩ rfl
 ·cases h;exact tokA (by kernel_rfl) rfl (by simp [one]) ⟨_,Tryz.underlying124,rfl⟩ rfl
 ·cases h;exact tokS (by kernel_rfl) rfl rfl Tryz.underlying125
 ·cases h;exact tokS (by kernel_rfl) rfl rfl Tryz.underlying126
 ·cases h;exact tokA (by kernel_rfl) rfl (by simp [one]) Tryz.underlying129 rfl
 ·cases h;exact tokS (by kernel_rfl) rfl rfl Tryz.underlying130
 ·cases h;exact tokS (by kernel_rfl) rfl rfl Tryz.underlying135
 ·cases h;exact tokA (by kernel_rfl) rfl (by simp [one]) ⟨_,Tryz.underlying154,rfl⟩ rfl
 ·cases h;exact tokA (by kernel_rfl) rfl (by simp [one]) ⟨_,Tryz.underlying155,rfl⟩ rfl
 ·cases h;exact tokS (by kernel_rfl) rfl rfl Tryz.underlying167
 ·cases h;exact tokA (by kernel_rfl) rfl (by simp [one]) ⟨_,Tryz.underlying168,rfl⟩ rfl
 ·cases h;exact tokA (by kernel_rfl) rfl (by simp [one]) ⟨_,Tryz.underlying169,rfl⟩ rfl
 ·cases h;exact tok172
 ·cases h;exact tok173
 ·cases h;exact tokA (by kernel_rfl) rfl (by simp [one]) Tryz.underlying181 rfl
 ·cases h;exact tok183
 ·cases h;exact tok184
 ·cases h;exact tokA (by kernel_rfl) rfl (by simp [one]) Tryz.underlying210 rfl
 ·cases h;exact tokS (by kernel_rfl) rfl rfl Tryz.underlying211
 ·cases h;exact tok215
 ·cases h;exact tok216
 ·cases h;exact tokS (by kernel_rfl) rfl rfl Tryz.underlying222
 ·cases h;exact tokS (by kernel_rfl) rfl rfl Tryz.underlying230
 ·cases h;exact tokS (by kernel_rfl) rfl rfl Tryz.underlying238
 ·cases h;exact tokA (by kernel_rfl) rfl (by simp [one]) Tryz.underlying241 rfl
 ·cases h;exact tokA (by kernel_rfl) rfl (by simp [one]) Tryz.underlying249 rfl
 ·cases h;exact tokS (by kernel_rfl) rfl rfl Tryz.underlying250
 ·cases h;exact tokA (by kernel_rfl) rfl (by simp [one]) Tryz.underlying257 rfl
 ·cases h;exact tokA (by kernel_rfl) rfl (by simp [one]) Tryz.underlying258 rfl
 ·cases h;exact tokA (by kernel_rfl) rfl (by simp [one]) Tryz.underlying261 rfl
 ·cases h;exact tokA (by kernel_rfl) rfl (by simp [one]) Tryz.underlying262 rfl
 ·cases h;exact tokS (by kernel_rfl) rfl rfl Tryz.underlying272
 ·cases h
theorem mixed:Tryz.prog.follows .mixedOrders=true:=Tryz.checked.mixed
end
section
open Go.Am
attribute [local simp, local push_cast] num boo str ints aV
abbrev Row:=List Val
abbrev Tab2:=List Row
def rRow (r:Row):List D:=[.sl 3 (ze rV r)]
def rTab (l:Tab2):List D:=[.sl 1 (ze rRow l)]
def aTab (l:Tab2):A:= .d (.sl 1 (ze rRow l))
end
section
open Go.Am
attribute [local simp, local push_cast] num boo str ints aV aTab
abbrev Inst:=List Tab2
def zA (i:Inst):A:= .agg [.d (.sl 1 (ze rTab i))]
attribute [local simp, local push_cast] zA
mutual
def x7:Ex->Int
 | .mk _ _ _ _ _ ks=>sizeL 1 ks
def sizeL:Int->List Ex->Int
 | n,[]=>n
 | n,e::l=>sizeL (IntKind.i64.wrap (n+x7 e)) l
end
theorem sizeW_eq (e:Ex):x7 e=sizeL 1 e.kids:=by cases e;rw [x7];rfl
theorem wP (e:Ex): ∀(l:List Ex) (n:Int),sizeL n (l++[e])=IntKind.i64.wrap (sizeL n l+x7 e)
 | [],n=>by simp [sizeL]
 | x::l,n=>by simp only [List.cons_append,sizeL];exact wP e l _
mutual
def yU:Ex->Int
 | .mk _ _ _ _ _ ks=>IntKind.i64.wrap (depthL 0 ks+1)
def depthL:Int->List Ex->Int
 | n,[]=>n
 | n,e::l=>depthL (if yU e>n then yU e else n) l
end
theorem depthW_eq (e:Ex):yU e=IntKind.i64.wrap (depthL 0 e.kids+1):=by cases e;rw [yU];rfl
theorem jr {p:Ex->Prop} (h: ∀e:Ex,(∀k∈e.kids,p k)->p e): ∀e,p e:=by
 intro e
 exact Ex.rec (motive_1:=p) (motive_2:=fun l=> ∀k∈l,p k) (fun a b c d f ks ih=>h _ ih) (by simp) (fun k l h1 h2=>by simpa using ⟨h1,h2⟩) e
inductive Ok12:Ex->Prop
 | mk (e:Ex) (h:e.kids.length<=12) (hk: ∀k∈e.kids,Ok12 k):Ok12 e
theorem Ok12.kids {e:Ex} (h:Ok12 e):e.kids.length<=12:=by cases h;assumption
theorem Ok12.kid {e k:Ex} (h:Ok12 e) (hk:k∈e.kids):Ok12 k:=by cases h with | mk _ _ h2=>exact h2 k hk
theorem qZ: ∀e:Ex,Ok12 e->ACall Tryz.prog 52 [aE e] [] (num (x7 e)) []:=
 jr (p:=fun e=>Ok12 e->ACall Tryz.prog 52 [aE e] [] (num (x7 e)) []) fun e ih ho=>by
 refine zp mixed ttok Tryz.func52 Tryz.ntmps52 Tryz.results52 ?_
 generalize hr:num (x7 e)=R
 have hl:=ho.kids
 simp -implicitDefEqProofs only [argT,↓zb,push_cast,simprocAttr,tte]
 refine zn mixed ttok 4 [1] [1] (by simp only [z6,ends,push_cast,simprocAttr];rfl) (by simp only [zB,zo,ends,push_cast,simprocAttr];rfl) e.kids.length (fun n=>sizeL (sizeL 1 (e.kids.take n)) (e.kids.drop n)=x7 e) (fun n=>[(3,num (sizeL 1 (e.kids.take n)))]) (fun _=>[]) (by rw [sizeW_eq];rfl) ?_ ?_
 ·exact Weak.keepL (by simp [cst,sizeL,ends]) (by simp [cst,ends]) (by simp [cst,ends])
 intro I hI n hn hi
 have hw:n<e.kids.length->IntKind.i64.wrap ((n:Int)+1)=((n+1:Nat):Int):=fun h=>by rw [zJ (by omega) (by omega)];rfl
 simp -implicitDefEqProofs only [cst,↓zb,push_cast,simprocAttr,tte]
 refine za (fun h=>?_) fun h=>?_
 ·simp only [decide_eq_true_eq] at h
  have h':n<e.kids.length:=by omega
  have ht:sizeL 1 (e.kids.take (n+1))=IntKind.i64.wrap (sizeL 1 (e.kids.take n)+x7 (e.kids.getD n default)):=by
   rw [zH _ _ h',wP]
  refine ⟨(by first | omega | trivial | (refine ⟨?_,?_⟩<;>first | omega | trivial | (refine ⟨?_,?_⟩<;>first | omega | trivial | (refine ⟨?_,?_⟩<;>first | omega | trivial | rfl)))),?_⟩
  refine zd [[0,0,0,0,0,6]] [] (ih _ (zi h') (ho.kid (zi h'))) ?_
  simp -implicitDefEqProofs only [↓zb,push_cast,simprocAttr,tte]
  exact zl hI n rfl h' (by rw [zR _ n h',sizeL] at hi;rw [ht];exact hi) (by simp [hw h',ht,ends]) (by simp [hw h',ht,ends]) (by simp [hw h',ht,ends]) (by simp [hw h',ht,ends])
 ·simp only [decide_eq_false_iff_not] at h
  have hn':n=e.kids.length:=by omega
  subst hn'
  refine zr [0] rfl (by simp) (by simp [zc]<;>omega) ?_ (by first | rfl | simp [ends] | (subst_vars;simp [ends])) (by simp [ends]) (by simp [ends])
  rw [<-hr,<-hi];simp [sizeL,num]
end
section
open Go.Am
attribute [local simp, local push_cast] num boo str ints aV aTab zA aS
end
end Go.Proofs.YtampbaaiddbacaaGreatDoor
