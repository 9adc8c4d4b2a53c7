/- A part of the proof. -/
import Derived.Test.YteglopjljejjkabGreatDoorGA29TA37
import Derived.Test.YteglopjljejjkabGreatDoorProg
import Derived.KernelRfl
import Derived.WalkKit
import Derived.LaidEql
import Derived.Stop.Asserts
import Derived.RowKitTokens
set_option maxRecDepth 100000
namespace Go.Eng
open Go Go.RowKit Go.Proofs
instance:a0h Tryz.prog:={ ok:=fun m=>a9p 1 2 m∧b4r 3 237 31 m,mono:=fun h hs=>⟨b0C h.1 hs,b2W h.2 hs⟩ }
theorem c2n{m:Nat→Option Obj}(h:a0h.ok Tryz.prog m):a9p 1 2 m:=h.1
theorem c3W{m:Nat→Option Obj}(h:a0h.ok Tryz.prog m):b4r 3 237 31 m:=h.2
def ti3:TI:=⟨1,false,(TypeDesc.int IntKind.i64),(Value.int IntKind.i64 0),8,false,false,true⟩
theorem tf3:TF Tryz.prog 3 ti3:=⟨Tryz.sizeOf3,Tryz.isAgg3,Tryz.underlying3,Tryz.zeroValue3,by kernel_rfl,by kernel_rfl,by kernel_rfl,by kernel_rfl⟩
def ti4:TI:=⟨1,false,TypeDesc.bool,(Value.bool false),1,false,false,true⟩
theorem tf4:TF Tryz.prog 4 ti4:=⟨Tryz.sizeOf4,Tryz.isAgg4,Tryz.underlying4,Tryz.zeroValue4,by kernel_rfl,by kernel_rfl,by kernel_rfl,by kernel_rfl⟩
def ti5:TI:=⟨1,false,(TypeDesc.int IntKind.u8),(Value.int IntKind.u8 0),1,false,false,true⟩
theorem tf5:TF Tryz.prog 5 ti5:=⟨Tryz.sizeOf5,Tryz.isAgg5,Tryz.underlying5,Tryz.zeroValue5,by kernel_rfl,by kernel_rfl,by kernel_rfl,by kernel_rfl⟩
def ti9:TI:=⟨1,false,TypeDesc.string,(Value.string { data:=#[] }),16,false,false,true⟩
theorem tf9:TF Tryz.prog 9 ti9:=⟨Tryz.sizeOf9,Tryz.isAgg9,Tryz.underlying9,Tryz.zeroValue9,by kernel_rfl,by kernel_rfl,by kernel_rfl,by kernel_rfl⟩
def ti12:TI:=⟨1,false,(TypeDesc.int IntKind.u64),(Value.int IntKind.u64 0),8,false,false,true⟩
theorem tf12:TF Tryz.prog 12 ti12:=⟨Tryz.sizeOf12,Tryz.isAgg12,Tryz.underlying12,Tryz.zeroValue12,by kernel_rfl,by kernel_rfl,by kernel_rfl,by kernel_rfl⟩
def ti20:TI:=⟨1,false,(TypeDesc.interface #[]),Value.nilIface,16,false,false,true⟩
theorem tf20:TF Tryz.prog 20 ti20:=⟨Tryz.sizeOf20,Tryz.isAgg20,Tryz.underlying20,Tryz.zeroValue20,by kernel_rfl,by kernel_rfl,by kernel_rfl,by kernel_rfl⟩
def ti21:TI:=⟨1,false,(TypeDesc.int IntKind.i32),(Value.int IntKind.i32 0),4,false,false,true⟩
theorem tf21:TF Tryz.prog 21 ti21:=⟨Tryz.sizeOf21,Tryz.isAgg21,Tryz.underlying21,Tryz.zeroValue21,by kernel_rfl,by kernel_rfl,by kernel_rfl,by kernel_rfl⟩
def ti22:TI:=⟨1,false,(TypeDesc.int IntKind.u32),(Value.int IntKind.u32 0),4,false,false,true⟩
theorem tf22:TF Tryz.prog 22 ti22:=⟨Tryz.sizeOf22,Tryz.isAgg22,Tryz.underlying22,Tryz.zeroValue22,by kernel_rfl,by kernel_rfl,by kernel_rfl,by kernel_rfl⟩
def ti23:TI:=⟨1,false,(TypeDesc.slice 26),(Value.slice none 0 0),24,false,false,false⟩
theorem tf23:TF Tryz.prog 23 ti23:=⟨Tryz.sizeOf23,Tryz.isAgg23,Tryz.underlying23,Tryz.zeroValue23,by kernel_rfl,by kernel_rfl,by kernel_rfl,by kernel_rfl⟩
def ti24:TI:=⟨1,false,(TypeDesc.slice 5),(Value.slice none 0 0),24,false,false,false⟩
theorem tf24:TF Tryz.prog 24 ti24:=⟨Tryz.sizeOf24,Tryz.isAgg24,Tryz.underlying24,Tryz.zeroValue24,by kernel_rfl,by kernel_rfl,by kernel_rfl,by kernel_rfl⟩
def ti26:TI:=⟨5,true,(TypeDesc.struct #[{ name:="What", type:=3,offset:=0,embedded:=false,tag:="", pkgPath:="", byteOffset:=0 },{ name:="At", type:=3,offset:=1,embedded:=false,tag:="", pkgPath:="", byteOffset:=8 },{ name:="N", type:=3,offset:=2,embedded:=false,tag:="", pkgPath:="", byteOffset:=16 },{ name:="Text", type:=9,offset:=3,embedded:=false,tag:="", pkgPath:="", byteOffset:=24 },{ name:="B", type:=24,offset:=4,embedded:=false,tag:="", pkgPath:="", byteOffset:=40 }]),(Value.agg #[Value.int IntKind.i64 0,Value.int IntKind.i64 0,Value.int IntKind.i64 0,Value.string { data:=#[] },Value.slice none 0 0]),64,false,false,false⟩
theorem tf26:TF Tryz.prog 26 ti26:=⟨Tryz.sizeOf26,Tryz.isAgg26,Tryz.underlying26,Tryz.zeroValue26,by kernel_rfl,by kernel_rfl,by kernel_rfl,by kernel_rfl⟩
def ti29:TI:=⟨1,false,(TypeDesc.pointer 79),(Value.pointer none),8,false,false,true⟩
theorem tf29:TF Tryz.prog 29 ti29:=⟨Tryz.sizeOf29,Tryz.isAgg29,Tryz.underlying29,Tryz.zeroValue29,by kernel_rfl,by kernel_rfl,by kernel_rfl,by kernel_rfl⟩
def ti31:TI:=⟨1,false,(TypeDesc.interface #[("Error", 37)]),Value.nilIface,16,false,true,true⟩
theorem tf31:TF Tryz.prog 31 ti31:=⟨Tryz.sizeOf31,Tryz.isAgg31,Tryz.underlying31,Tryz.zeroValue31,by kernel_rfl,by kernel_rfl,by kernel_rfl,by kernel_rfl⟩
def ti38:TI:=⟨1,false,(TypeDesc.slice 85),(Value.slice none 0 0),24,false,false,false⟩
theorem tf38:TF Tryz.prog 38 ti38:=⟨Tryz.sizeOf38,Tryz.isAgg38,Tryz.underlying38,Tryz.zeroValue38,by kernel_rfl,by kernel_rfl,by kernel_rfl,by kernel_rfl⟩
def ti43:TI:=⟨1,false,(TypeDesc.slice 3),(Value.slice none 0 0),24,false,false,false⟩
theorem tf43:TF Tryz.prog 43 ti43:=⟨Tryz.sizeOf43,Tryz.isAgg43,Tryz.underlying43,Tryz.zeroValue43,by kernel_rfl,by kernel_rfl,by kernel_rfl,by kernel_rfl⟩
def ti46:TI:=⟨1,false,(TypeDesc.slice 61),(Value.slice none 0 0),24,false,false,false⟩
theorem tf46:TF Tryz.prog 46 ti46:=⟨Tryz.sizeOf46,Tryz.isAgg46,Tryz.underlying46,Tryz.zeroValue46,by kernel_rfl,by kernel_rfl,by kernel_rfl,by kernel_rfl⟩
def ti48:TI:=⟨1,false,(TypeDesc.slice 90),(Value.slice none 0 0),24,false,false,false⟩
theorem tf48:TF Tryz.prog 48 ti48:=⟨Tryz.sizeOf48,Tryz.isAgg48,Tryz.underlying48,Tryz.zeroValue48,by kernel_rfl,by kernel_rfl,by kernel_rfl,by kernel_rfl⟩
def ti49:TI:=⟨1,false,(TypeDesc.slice 105),(Value.slice none 0 0),24,false,false,false⟩
theorem tf49:TF Tryz.prog 49 ti49:=⟨Tryz.sizeOf49,Tryz.isAgg49,Tryz.underlying49,Tryz.zeroValue49,by kernel_rfl,by kernel_rfl,by kernel_rfl,by kernel_rfl⟩
def ti51:TI:=⟨2,true,(TypeDesc.struct #[{ name:="Runs", type:=48,offset:=0,embedded:=false,tag:="", pkgPath:="", byteOffset:=0 },{ name:="Deletes", type:=49,offset:=1,embedded:=false,tag:="", pkgPath:="", byteOffset:=24 }]),(Value.agg #[Value.slice none 0 0,Value.slice none 0 0]),48,false,false,false⟩
theorem tf51:TF Tryz.prog 51 ti51:=⟨Tryz.sizeOf51,Tryz.isAgg51,Tryz.underlying51,Tryz.zeroValue51,by kernel_rfl,by kernel_rfl,by kernel_rfl,by kernel_rfl⟩
def ti55:TI:=⟨1,false,(TypeDesc.slice 59),(Value.slice none 0 0),24,false,false,false⟩
theorem tf55:TF Tryz.prog 55 ti55:=⟨Tryz.sizeOf55,Tryz.isAgg55,Tryz.underlying55,Tryz.zeroValue55,by kernel_rfl,by kernel_rfl,by kernel_rfl,by kernel_rfl⟩
def ti59:TI:=⟨2,true,(TypeDesc.struct #[{ name:="Client", type:=22,offset:=0,embedded:=false,tag:="", pkgPath:="", byteOffset:=0 },{ name:="Clock", type:=22,offset:=1,embedded:=false,tag:="", pkgPath:="", byteOffset:=4 }]),(Value.agg #[Value.int IntKind.u32 0,Value.int IntKind.u32 0]),8,false,false,true⟩
theorem tf59:TF Tryz.prog 59 ti59:=⟨Tryz.sizeOf59,Tryz.isAgg59,Tryz.underlying59,Tryz.zeroValue59,by kernel_rfl,by kernel_rfl,by kernel_rfl,by kernel_rfl⟩
def ti61:TI:=⟨7,true,(TypeDesc.struct #[{ name:="Id", type:=59,offset:=0,embedded:=false,tag:="", pkgPath:="", byteOffset:=0 },{ name:="Left", type:=59,offset:=2,embedded:=false,tag:="", pkgPath:="", byteOffset:=8 },{ name:="Right", type:=59,offset:=4,embedded:=false,tag:="", pkgPath:="", byteOffset:=16 },{ name:="Ch", type:=21,offset:=6,embedded:=false,tag:="", pkgPath:="", byteOffset:=24 }]),(Value.agg #[Value.int IntKind.u32 0,Value.int IntKind.u32 0,Value.int IntKind.u32 0,Value.int IntKind.u32 0,Value.int IntKind.u32 0,Value.int IntKind.u32 0,Value.int IntKind.i32 0]),28,false,false,true⟩
theorem tf61:TF Tryz.prog 61 ti61:=⟨Tryz.sizeOf61,Tryz.isAgg61,Tryz.underlying61,Tryz.zeroValue61,by kernel_rfl,by kernel_rfl,by kernel_rfl,by kernel_rfl⟩
def ti67:TI:=⟨1,false,(TypeDesc.func #[24] #[3,31] false),Value.nilFunc,8,false,false,false⟩
theorem tf67:TF Tryz.prog 67 ti67:=⟨Tryz.sizeOf67,Tryz.isAgg67,Tryz.underlying67,Tryz.zeroValue67,by kernel_rfl,by kernel_rfl,by kernel_rfl,by kernel_rfl⟩
def ti68:TI:=⟨1,false,(TypeDesc.func #[9,31] #[31] false),Value.nilFunc,8,false,false,false⟩
theorem tf68:TF Tryz.prog 68 ti68:=⟨Tryz.sizeOf68,Tryz.isAgg68,Tryz.underlying68,Tryz.zeroValue68,by kernel_rfl,by kernel_rfl,by kernel_rfl,by kernel_rfl⟩
def ti69:TI:=⟨1,false,(TypeDesc.int IntKind.i64),(Value.int IntKind.i64 0),8,false,false,true⟩
theorem tf69:TF Tryz.prog 69 ti69:=⟨Tryz.sizeOf69,Tryz.isAgg69,Tryz.underlying69,Tryz.zeroValue69,by kernel_rfl,by kernel_rfl,by kernel_rfl,by kernel_rfl⟩
def ti70:TI:=⟨1,false,(TypeDesc.slice 137),(Value.slice none 0 0),24,false,false,false⟩
theorem tf70:TF Tryz.prog 70 ti70:=⟨Tryz.sizeOf70,Tryz.isAgg70,Tryz.underlying70,Tryz.zeroValue70,by kernel_rfl,by kernel_rfl,by kernel_rfl,by kernel_rfl⟩
def ti72:TI:=⟨3,true,(TypeDesc.struct #[{ name:="l", type:=70,offset:=0,embedded:=false,tag:="", pkgPath:="surcingle/index", byteOffset:=0 },{ name:="len", type:=3,offset:=1,embedded:=false,tag:="", pkgPath:="surcingle/index", byteOffset:=24 },{ name:="shown", type:=3,offset:=2,embedded:=false,tag:="", pkgPath:="surcingle/index", byteOffset:=32 }]),(Value.agg #[Value.slice none 0 0,Value.int IntKind.i64 0,Value.int IntKind.i64 0]),40,false,false,false⟩
theorem tf72:TF Tryz.prog 72 ti72:=⟨Tryz.sizeOf72,Tryz.isAgg72,Tryz.underlying72,Tryz.zeroValue72,by kernel_rfl,by kernel_rfl,by kernel_rfl,by kernel_rfl⟩
def ti73:TI:=⟨1,false,(TypeDesc.slice 141),(Value.slice none 0 0),24,false,false,false⟩
theorem tf73:TF Tryz.prog 73 ti73:=⟨Tryz.sizeOf73,Tryz.isAgg73,Tryz.underlying73,Tryz.zeroValue73,by kernel_rfl,by kernel_rfl,by kernel_rfl,by kernel_rfl⟩
def ti75:TI:=⟨4,true,(TypeDesc.struct #[{ name:="x", type:=72,offset:=0,embedded:=false,tag:="", pkgPath:="surcingle/list", byteOffset:=0 },{ name:="l", type:=73,offset:=3,embedded:=false,tag:="", pkgPath:="surcingle/list", byteOffset:=40 }]),(Value.agg #[Value.slice none 0 0,Value.int IntKind.i64 0,Value.int IntKind.i64 0,Value.slice none 0 0]),64,false,false,false⟩
theorem tf75:TF Tryz.prog 75 ti75:=⟨Tryz.sizeOf75,Tryz.isAgg75,Tryz.underlying75,Tryz.zeroValue75,by kernel_rfl,by kernel_rfl,by kernel_rfl,by kernel_rfl⟩
def ti77:TI:=⟨7,true,(TypeDesc.struct #[{ name:="l", type:=75,offset:=0,embedded:=false,tag:="", pkgPath:="surcingle/doc", byteOffset:=0 },{ name:="v", type:=38,offset:=4,embedded:=false,tag:="", pkgPath:="surcingle/doc", byteOffset:=64 },{ name:="wait", type:=46,offset:=5,embedded:=false,tag:="", pkgPath:="surcingle/doc", byteOffset:=88 },{ name:="gone", type:=49,offset:=6,embedded:=false,tag:="", pkgPath:="surcingle/doc", byteOffset:=112 }]),(Value.agg #[Value.slice none 0 0,Value.int IntKind.i64 0,Value.int IntKind.i64 0,Value.slice none 0 0,Value.slice none 0 0,Value.slice none 0 0,Value.slice none 0 0]),136,false,false,false⟩
theorem tf77:TF Tryz.prog 77 ti77:=⟨Tryz.sizeOf77,Tryz.isAgg77,Tryz.underlying77,Tryz.zeroValue77,by kernel_rfl,by kernel_rfl,by kernel_rfl,by kernel_rfl⟩
def ti78:TI:=⟨11,true,(TypeDesc.struct #[{ name:="client", type:=22,offset:=0,embedded:=false,tag:="", pkgPath:="surcingle/doc", byteOffset:=0 },{ name:="limit", type:=22,offset:=1,embedded:=false,tag:="", pkgPath:="surcingle/doc", byteOffset:=4 },{ name:="s", type:=77,offset:=2,embedded:=false,tag:="", pkgPath:="surcingle/doc", byteOffset:=8 },{ name:="version", type:=3,offset:=9,embedded:=false,tag:="", pkgPath:="surcingle/doc", byteOffset:=144 },{ name:="closed", type:=4,offset:=10,embedded:=false,tag:="", pkgPath:="surcingle/doc", byteOffset:=152 }]),(Value.agg #[Value.int IntKind.u32 0,Value.int IntKind.u32 0,Value.slice none 0 0,Value.int IntKind.i64 0,Value.int IntKind.i64 0,Value.slice none 0 0,Value.slice none 0 0,Value.slice none 0 0,Value.slice none 0 0,Value.int IntKind.i64 0,Value.bool false]),160,false,false,false⟩
theorem tf78:TF Tryz.prog 78 ti78:=⟨Tryz.sizeOf78,Tryz.isAgg78,Tryz.underlying78,Tryz.zeroValue78,by kernel_rfl,by kernel_rfl,by kernel_rfl,by kernel_rfl⟩
def ti79:TI:=⟨11,true,(TypeDesc.struct #[{ name:="client", type:=22,offset:=0,embedded:=false,tag:="", pkgPath:="surcingle/doc", byteOffset:=0 },{ name:="limit", type:=22,offset:=1,embedded:=false,tag:="", pkgPath:="surcingle/doc", byteOffset:=4 },{ name:="s", type:=77,offset:=2,embedded:=false,tag:="", pkgPath:="surcingle/doc", byteOffset:=8 },{ name:="version", type:=3,offset:=9,embedded:=false,tag:="", pkgPath:="surcingle/doc", byteOffset:=144 },{ name:="closed", type:=4,offset:=10,embedded:=false,tag:="", pkgPath:="surcingle/doc", byteOffset:=152 }]),(Value.agg #[Value.int IntKind.u32 0,Value.int IntKind.u32 0,Value.slice none 0 0,Value.int IntKind.i64 0,Value.int IntKind.i64 0,Value.slice none 0 0,Value.slice none 0 0,Value.slice none 0 0,Value.slice none 0 0,Value.int IntKind.i64 0,Value.bool false]),160,false,false,false⟩
theorem tf79:TF Tryz.prog 79 ti79:=⟨Tryz.sizeOf79,Tryz.isAgg79,Tryz.underlying79,Tryz.zeroValue79,by kernel_rfl,by kernel_rfl,by kernel_rfl,by kernel_rfl⟩
def ti85:TI:=⟨2,true,(TypeDesc.struct #[{ name:="Client", type:=22,offset:=0,embedded:=false,tag:="", pkgPath:="", byteOffset:=0 },{ name:="Next", type:=22,offset:=1,embedded:=false,tag:="", pkgPath:="", byteOffset:=4 }]),(Value.agg #[Value.int IntKind.u32 0,Value.int IntKind.u32 0]),8,false,false,true⟩
theorem tf85:TF Tryz.prog 85 ti85:=⟨Tryz.sizeOf85,Tryz.isAgg85,Tryz.underlying85,Tryz.zeroValue85,by kernel_rfl,by kernel_rfl,by kernel_rfl,by kernel_rfl⟩
def ti86:TI:=⟨1,false,(TypeDesc.slice 21),(Value.slice none 0 0),24,false,false,false⟩
theorem tf86:TF Tryz.prog 86 ti86:=⟨Tryz.sizeOf86,Tryz.isAgg86,Tryz.underlying86,Tryz.zeroValue86,by kernel_rfl,by kernel_rfl,by kernel_rfl,by kernel_rfl⟩
def ti90:TI:=⟨7,true,(TypeDesc.struct #[{ name:="Id", type:=59,offset:=0,embedded:=false,tag:="", pkgPath:="", byteOffset:=0 },{ name:="Left", type:=59,offset:=2,embedded:=false,tag:="", pkgPath:="", byteOffset:=8 },{ name:="Right", type:=59,offset:=4,embedded:=false,tag:="", pkgPath:="", byteOffset:=16 },{ name:="Text", type:=9,offset:=6,embedded:=false,tag:="", pkgPath:="", byteOffset:=24 }]),(Value.agg #[Value.int IntKind.u32 0,Value.int IntKind.u32 0,Value.int IntKind.u32 0,Value.int IntKind.u32 0,Value.int IntKind.u32 0,Value.int IntKind.u32 0,Value.string { data:=#[] }]),40,false,false,true⟩
theorem tf90:TF Tryz.prog 90 ti90:=⟨Tryz.sizeOf90,Tryz.isAgg90,Tryz.underlying90,Tryz.zeroValue90,by kernel_rfl,by kernel_rfl,by kernel_rfl,by kernel_rfl⟩
def ti91:TI:=⟨1,false,(TypeDesc.slice 95),(Value.slice none 0 0),24,false,false,false⟩
theorem tf91:TF Tryz.prog 91 ti91:=⟨Tryz.sizeOf91,Tryz.isAgg91,Tryz.underlying91,Tryz.zeroValue91,by kernel_rfl,by kernel_rfl,by kernel_rfl,by kernel_rfl⟩
def ti95:TI:=⟨4,true,(TypeDesc.struct #[{ name:="Id", type:=59,offset:=0,embedded:=false,tag:="", pkgPath:="", byteOffset:=0 },{ name:="Ch", type:=21,offset:=2,embedded:=false,tag:="", pkgPath:="", byteOffset:=8 },{ name:="Gone", type:=4,offset:=3,embedded:=false,tag:="", pkgPath:="", byteOffset:=12 }]),(Value.agg #[Value.int IntKind.u32 0,Value.int IntKind.u32 0,Value.int IntKind.i32 0,Value.bool false]),16,false,false,true⟩
theorem tf95:TF Tryz.prog 95 ti95:=⟨Tryz.sizeOf95,Tryz.isAgg95,Tryz.underlying95,Tryz.zeroValue95,by kernel_rfl,by kernel_rfl,by kernel_rfl,by kernel_rfl⟩
def ti97:TI:=⟨1,false,(TypeDesc.func #[59] #[61,4] false),Value.nilFunc,8,false,false,false⟩
theorem tf97:TF Tryz.prog 97 ti97:=⟨Tryz.sizeOf97,Tryz.isAgg97,Tryz.underlying97,Tryz.zeroValue97,by kernel_rfl,by kernel_rfl,by kernel_rfl,by kernel_rfl⟩
def ti98:TI:=⟨1,false,(TypeDesc.func #[38,22] #[22] false),Value.nilFunc,8,false,false,false⟩
theorem tf98:TF Tryz.prog 98 ti98:=⟨Tryz.sizeOf98,Tryz.isAgg98,Tryz.underlying98,Tryz.zeroValue98,by kernel_rfl,by kernel_rfl,by kernel_rfl,by kernel_rfl⟩
def ti99:TI:=⟨1,false,(TypeDesc.func #[46,101] #[] false),Value.nilFunc,8,false,false,false⟩
theorem tf99:TF Tryz.prog 99 ti99:=⟨Tryz.sizeOf99,Tryz.isAgg99,Tryz.underlying99,Tryz.zeroValue99,by kernel_rfl,by kernel_rfl,by kernel_rfl,by kernel_rfl⟩
def c1q:TI:=⟨1,false,(TypeDesc.func #[59,59] #[3] false),Value.nilFunc,8,false,false,false⟩
theorem c3C:TF Tryz.prog 100 c1q:=⟨Tryz.sizeOf100,Tryz.isAgg100,Tryz.underlying100,Tryz.zeroValue100,by kernel_rfl,by kernel_rfl,by kernel_rfl,by kernel_rfl⟩
def c1p:TI:=⟨1,false,(TypeDesc.func #[61,61] #[3] false),Value.nilFunc,8,false,false,false⟩
theorem c3B:TF Tryz.prog 101 c1p:=⟨Tryz.sizeOf101,Tryz.isAgg101,Tryz.underlying101,Tryz.zeroValue101,by kernel_rfl,by kernel_rfl,by kernel_rfl,by kernel_rfl⟩
def c1n:TI:=⟨3,true,(TypeDesc.struct #[{ name:="Client", type:=22,offset:=0,embedded:=false,tag:="", pkgPath:="", byteOffset:=0 },{ name:="From", type:=22,offset:=1,embedded:=false,tag:="", pkgPath:="", byteOffset:=4 },{ name:="To", type:=22,offset:=2,embedded:=false,tag:="", pkgPath:="", byteOffset:=8 }]),(Value.agg #[Value.int IntKind.u32 0,Value.int IntKind.u32 0,Value.int IntKind.u32 0]),12,false,false,true⟩
theorem c3z:TF Tryz.prog 105 c1n:=⟨Tryz.sizeOf105,Tryz.isAgg105,Tryz.underlying105,Tryz.zeroValue105,by kernel_rfl,by kernel_rfl,by kernel_rfl,by kernel_rfl⟩
def c1l:TI:=⟨1,false,(TypeDesc.func #[38,22,22] #[38] false),Value.nilFunc,8,false,false,false⟩
theorem c3x:TF Tryz.prog 108 c1l:=⟨Tryz.sizeOf108,Tryz.isAgg108,Tryz.underlying108,Tryz.zeroValue108,by kernel_rfl,by kernel_rfl,by kernel_rfl,by kernel_rfl⟩
def c1j:TI:=⟨1,false,(TypeDesc.func #[46] #[109] false),Value.nilFunc,8,false,false,false⟩
theorem c3v:TF Tryz.prog 110 c1j:=⟨Tryz.sizeOf110,Tryz.isAgg110,Tryz.underlying110,Tryz.zeroValue110,by kernel_rfl,by kernel_rfl,by kernel_rfl,by kernel_rfl⟩
def c1i:TI:=⟨1,false,(TypeDesc.map 113 55),(Value.map none),8,false,false,false⟩
theorem c3u:TF Tryz.prog 111 c1i:=⟨Tryz.sizeOf111,Tryz.isAgg111,Tryz.underlying111,Tryz.zeroValue111,by kernel_rfl,by kernel_rfl,by kernel_rfl,by kernel_rfl⟩
def c1h:TI:=⟨3,true,(TypeDesc.struct #[{ name:="On", type:=59,offset:=0,embedded:=false,tag:="", pkgPath:="", byteOffset:=0 },{ name:="Right", type:=4,offset:=2,embedded:=false,tag:="", pkgPath:="", byteOffset:=8 }]),(Value.agg #[Value.int IntKind.u32 0,Value.int IntKind.u32 0,Value.bool false]),12,false,false,true⟩
theorem c3t:TF Tryz.prog 112 c1h:=⟨Tryz.sizeOf112,Tryz.isAgg112,Tryz.underlying112,Tryz.zeroValue112,by kernel_rfl,by kernel_rfl,by kernel_rfl,by kernel_rfl⟩
def c5o:TI:=⟨3,true,(TypeDesc.struct #[{ name:="On", type:=59,offset:=0,embedded:=false,tag:="", pkgPath:="", byteOffset:=0 },{ name:="Right", type:=4,offset:=2,embedded:=false,tag:="", pkgPath:="", byteOffset:=8 }]),(Value.agg #[Value.int IntKind.u32 0,Value.int IntKind.u32 0,Value.bool false]),12,false,false,true⟩
theorem c5Y:TF Tryz.prog 113 c5o:=⟨Tryz.sizeOf113,Tryz.isAgg113,Tryz.underlying113,Tryz.zeroValue113,by kernel_rfl,by kernel_rfl,by kernel_rfl,by kernel_rfl⟩
def c1g:TI:=⟨1,false,(TypeDesc.func #[55,100] #[] false),Value.nilFunc,8,false,false,false⟩
theorem c3s:TF Tryz.prog 114 c1g:=⟨Tryz.sizeOf114,Tryz.isAgg114,Tryz.underlying114,Tryz.zeroValue114,by kernel_rfl,by kernel_rfl,by kernel_rfl,by kernel_rfl⟩
def c5n:TI:=⟨1,false,(TypeDesc.func #[59] #[] false),Value.nilFunc,8,false,false,false⟩
theorem c5X:TF Tryz.prog 115 c5n:=⟨Tryz.sizeOf115,Tryz.isAgg115,Tryz.underlying115,Tryz.zeroValue115,by kernel_rfl,by kernel_rfl,by kernel_rfl,by kernel_rfl⟩
def c1f:TI:=⟨1,false,(TypeDesc.func #[113] #[] false),Value.nilFunc,8,false,false,false⟩
theorem c3r:TF Tryz.prog 116 c1f:=⟨Tryz.sizeOf116,Tryz.isAgg116,Tryz.underlying116,Tryz.zeroValue116,by kernel_rfl,by kernel_rfl,by kernel_rfl,by kernel_rfl⟩
def c5m:TI:=⟨1,false,(TypeDesc.func #[9,77,4,31] #[3,31] false),Value.nilFunc,8,false,false,false⟩
theorem c5W:TF Tryz.prog 119 c5m:=⟨Tryz.sizeOf119,Tryz.isAgg119,Tryz.underlying119,Tryz.zeroValue119,by kernel_rfl,by kernel_rfl,by kernel_rfl,by kernel_rfl⟩
def c1d:TI:=⟨1,false,(TypeDesc.func #[51] #[4] false),Value.nilFunc,8,false,false,false⟩
theorem c3p:TF Tryz.prog 120 c1d:=⟨Tryz.sizeOf120,Tryz.isAgg120,Tryz.underlying120,Tryz.zeroValue120,by kernel_rfl,by kernel_rfl,by kernel_rfl,by kernel_rfl⟩
def c1c:TI:=⟨1,false,(TypeDesc.func #[24,161] #[24] true),Value.nilFunc,8,false,false,false⟩
theorem c3o:TF Tryz.prog 121 c1c:=⟨Tryz.sizeOf121,Tryz.isAgg121,Tryz.underlying121,Tryz.zeroValue121,by kernel_rfl,by kernel_rfl,by kernel_rfl,by kernel_rfl⟩
def c5l:TI:=⟨1,false,(TypeDesc.pointer 69),(Value.pointer none),8,false,false,true⟩
theorem c5V:TF Tryz.prog 128 c5l:=⟨Tryz.sizeOf128,Tryz.isAgg128,Tryz.underlying128,Tryz.zeroValue128,by kernel_rfl,by kernel_rfl,by kernel_rfl,by kernel_rfl⟩
def c5k:TI:=⟨1,false,(TypeDesc.pointer 131),(Value.pointer none),8,false,false,true⟩
theorem c5U:TF Tryz.prog 129 c5k:=⟨Tryz.sizeOf129,Tryz.isAgg129,Tryz.underlying129,Tryz.zeroValue129,by kernel_rfl,by kernel_rfl,by kernel_rfl,by kernel_rfl⟩
def c1a:TI:=⟨2,true,(TypeDesc.struct #[{ name:="Op", type:=9,offset:=0,embedded:=false,tag:="", pkgPath:="", byteOffset:=0 },{ name:="Code", type:=69,offset:=1,embedded:=false,tag:="", pkgPath:="", byteOffset:=16 }]),(Value.agg #[Value.string { data:=#[] },Value.int IntKind.i64 0]),24,false,false,true⟩
theorem c3m:TF Tryz.prog 131 c1a:=⟨Tryz.sizeOf131,Tryz.isAgg131,Tryz.underlying131,Tryz.zeroValue131,by kernel_rfl,by kernel_rfl,by kernel_rfl,by kernel_rfl⟩
def c4H:TI:=⟨2,true,(TypeDesc.struct #[{ name:="l", type:=91,offset:=0,embedded:=false,tag:="", pkgPath:="surcingle/index", byteOffset:=0 },{ name:="shown", type:=3,offset:=1,embedded:=false,tag:="", pkgPath:="surcingle/index", byteOffset:=24 }]),(Value.agg #[Value.slice none 0 0,Value.int IntKind.i64 0]),32,false,false,false⟩
theorem c5q:TF Tryz.prog 137 c4H:=⟨Tryz.sizeOf137,Tryz.isAgg137,Tryz.underlying137,Tryz.zeroValue137,by kernel_rfl,by kernel_rfl,by kernel_rfl,by kernel_rfl⟩
def c4G:TI:=⟨10,true,(TypeDesc.struct #[{ name:="i", type:=61,offset:=0,embedded:=false,tag:="", pkgPath:="surcingle/list", byteOffset:=0 },{ name:="hang", type:=113,offset:=7,embedded:=false,tag:="", pkgPath:="surcingle/list", byteOffset:=28 }]),(Value.agg #[Value.int IntKind.u32 0,Value.int IntKind.u32 0,Value.int IntKind.u32 0,Value.int IntKind.u32 0,Value.int IntKind.u32 0,Value.int IntKind.u32 0,Value.int IntKind.i32 0,Value.int IntKind.u32 0,Value.int IntKind.u32 0,Value.bool false]),40,false,false,true⟩
theorem c5p:TF Tryz.prog 141 c4G:=⟨Tryz.sizeOf141,Tryz.isAgg141,Tryz.underlying141,Tryz.zeroValue141,by kernel_rfl,by kernel_rfl,by kernel_rfl,by kernel_rfl⟩
def c5j:TI:=⟨1,false,(TypeDesc.int IntKind.u64),(Value.int IntKind.u64 0),8,false,false,true⟩
theorem c5T:TF Tryz.prog 145 c5j:=⟨Tryz.sizeOf145,Tryz.isAgg145,Tryz.underlying145,Tryz.zeroValue145,by kernel_rfl,by kernel_rfl,by kernel_rfl,by kernel_rfl⟩
def c5i:TI:=⟨1,false,(TypeDesc.int IntKind.u64),(Value.int IntKind.u64 0),8,false,false,true⟩
theorem c5S:TF Tryz.prog 156 c5i:=⟨Tryz.sizeOf156,Tryz.isAgg156,Tryz.underlying156,Tryz.zeroValue156,by kernel_rfl,by kernel_rfl,by kernel_rfl,by kernel_rfl⟩
def c5h:TI:=⟨1,false,(TypeDesc.func #[90] #[4] false),Value.nilFunc,8,false,false,false⟩
theorem c5R:TF Tryz.prog 160 c5h:=⟨Tryz.sizeOf160,Tryz.isAgg160,Tryz.underlying160,Tryz.zeroValue160,by kernel_rfl,by kernel_rfl,by kernel_rfl,by kernel_rfl⟩
def c5g:TI:=⟨1,false,(TypeDesc.slice 22),(Value.slice none 0 0),24,false,false,false⟩
theorem c5Q:TF Tryz.prog 161 c5g:=⟨Tryz.sizeOf161,Tryz.isAgg161,Tryz.underlying161,Tryz.zeroValue161,by kernel_rfl,by kernel_rfl,by kernel_rfl,by kernel_rfl⟩
def c5f:TI:=⟨1,false,(TypeDesc.pointer 165),(Value.pointer none),8,false,false,true⟩
theorem c5P:TF Tryz.prog 163 c5f:=⟨Tryz.sizeOf163,Tryz.isAgg163,Tryz.underlying163,Tryz.zeroValue163,by kernel_rfl,by kernel_rfl,by kernel_rfl,by kernel_rfl⟩
def c5e:TI:=⟨3,true,(TypeDesc.struct #[{ name:="b", type:=24,offset:=0,embedded:=false,tag:="", pkgPath:="surcingle/batch", byteOffset:=0 },{ name:="at", type:=3,offset:=1,embedded:=false,tag:="", pkgPath:="surcingle/batch", byteOffset:=24 },{ name:="bad", type:=31,offset:=2,embedded:=false,tag:="", pkgPath:="surcingle/batch", byteOffset:=32 }]),(Value.agg #[Value.slice none 0 0,Value.int IntKind.i64 0,Value.nilIface]),48,false,true,false⟩
theorem c5O:TF Tryz.prog 165 c5e:=⟨Tryz.sizeOf165,Tryz.isAgg165,Tryz.underlying165,Tryz.zeroValue165,by kernel_rfl,by kernel_rfl,by kernel_rfl,by kernel_rfl⟩
def c0S:TI:=⟨1,false,(TypeDesc.pointer 77),(Value.pointer none),8,false,false,true⟩
theorem c3e:TF Tryz.prog 191 c0S:=⟨Tryz.sizeOf191,Tryz.isAgg191,Tryz.underlying191,Tryz.zeroValue191,by kernel_rfl,by kernel_rfl,by kernel_rfl,by kernel_rfl⟩
def c0R:TI:=⟨1,false,(TypeDesc.func #[141,59] #[3] false),Value.nilFunc,8,false,false,false⟩
theorem c3d:TF Tryz.prog 193 c0R:=⟨Tryz.sizeOf193,Tryz.isAgg193,Tryz.underlying193,Tryz.zeroValue193,by kernel_rfl,by kernel_rfl,by kernel_rfl,by kernel_rfl⟩
def c0Q:TI:=⟨1,false,(TypeDesc.func #[85,22] #[3] false),Value.nilFunc,8,false,false,false⟩
theorem c3c:TF Tryz.prog 195 c0Q:=⟨Tryz.sizeOf195,Tryz.isAgg195,Tryz.underlying195,Tryz.zeroValue195,by kernel_rfl,by kernel_rfl,by kernel_rfl,by kernel_rfl⟩
def c5d:TI:=⟨1,false,(TypeDesc.int IntKind.i64),(Value.int IntKind.i64 0),8,false,false,true⟩
theorem c5N:TF Tryz.prog 197 c5d:=⟨Tryz.sizeOf197,Tryz.isAgg197,Tryz.underlying197,Tryz.zeroValue197,by kernel_rfl,by kernel_rfl,by kernel_rfl,by kernel_rfl⟩
def c5c:TI:=⟨2,true,(TypeDesc.struct #[{ name:="lo", type:=5,offset:=0,embedded:=false,tag:="", pkgPath:="unicode/utf8", byteOffset:=0 },{ name:="hi", type:=5,offset:=1,embedded:=false,tag:="", pkgPath:="unicode/utf8", byteOffset:=1 }]),(Value.agg #[Value.int IntKind.u8 0,Value.int IntKind.u8 0]),2,false,false,true⟩
theorem c5M:TF Tryz.prog 217 c5c:=⟨Tryz.sizeOf217,Tryz.isAgg217,Tryz.underlying217,Tryz.zeroValue217,by kernel_rfl,by kernel_rfl,by kernel_rfl,by kernel_rfl⟩
def c5b:TI:=⟨1,false,(TypeDesc.func #[61] #[4] false),Value.nilFunc,8,false,false,false⟩
theorem c5L:TF Tryz.prog 227 c5b:=⟨Tryz.sizeOf227,Tryz.isAgg227,Tryz.underlying227,Tryz.zeroValue227,by kernel_rfl,by kernel_rfl,by kernel_rfl,by kernel_rfl⟩
def c5a:TI:=⟨1,false,(TypeDesc.slice 46),(Value.slice none 0 0),24,false,false,false⟩
theorem c5K:TF Tryz.prog 230 c5a:=⟨Tryz.sizeOf230,Tryz.isAgg230,Tryz.underlying230,Tryz.zeroValue230,by kernel_rfl,by kernel_rfl,by kernel_rfl,by kernel_rfl⟩
def c4Z:TI:=⟨1,false,(TypeDesc.func #[105] #[4] false),Value.nilFunc,8,false,false,false⟩
theorem c5J:TF Tryz.prog 233 c4Z:=⟨Tryz.sizeOf233,Tryz.isAgg233,Tryz.underlying233,Tryz.zeroValue233,by kernel_rfl,by kernel_rfl,by kernel_rfl,by kernel_rfl⟩
def c4Y:TI:=⟨1,false,(TypeDesc.interface #[("As", 244)]),Value.nilIface,16,false,true,true⟩
theorem c5I:TF Tryz.prog 242 c4Y:=⟨Tryz.sizeOf242,Tryz.isAgg242,Tryz.underlying242,Tryz.zeroValue242,by kernel_rfl,by kernel_rfl,by kernel_rfl,by kernel_rfl⟩
def c4X:TI:=⟨1,false,(TypeDesc.interface #[("Unwrap", 36)]),Value.nilIface,16,false,true,true⟩
theorem c5H:TF Tryz.prog 245 c4X:=⟨Tryz.sizeOf245,Tryz.isAgg245,Tryz.underlying245,Tryz.zeroValue245,by kernel_rfl,by kernel_rfl,by kernel_rfl,by kernel_rfl⟩
def c4W:TI:=⟨1,false,(TypeDesc.interface #[("Unwrap", 248)]),Value.nilIface,16,false,true,true⟩
theorem c5G:TF Tryz.prog 246 c4W:=⟨Tryz.sizeOf246,Tryz.isAgg246,Tryz.underlying246,Tryz.zeroValue246,by kernel_rfl,by kernel_rfl,by kernel_rfl,by kernel_rfl⟩
def c4V:TI:=⟨1,false,(TypeDesc.slice 31),(Value.slice none 0 0),24,false,false,false⟩
theorem c5F:TF Tryz.prog 247 c4V:=⟨Tryz.sizeOf247,Tryz.isAgg247,Tryz.underlying247,Tryz.zeroValue247,by kernel_rfl,by kernel_rfl,by kernel_rfl,by kernel_rfl⟩
def c4U:TI:=⟨1,false,(TypeDesc.int IntKind.u64),(Value.int IntKind.u64 0),8,false,false,true⟩
theorem c5E:TF Tryz.prog 249 c4U:=⟨Tryz.sizeOf249,Tryz.isAgg249,Tryz.underlying249,Tryz.zeroValue249,by kernel_rfl,by kernel_rfl,by kernel_rfl,by kernel_rfl⟩
def c4T:TI:=⟨1,false,(TypeDesc.pointer 3),(Value.pointer none),8,false,false,true⟩
theorem c5D:TF Tryz.prog 253 c4T:=⟨Tryz.sizeOf253,Tryz.isAgg253,Tryz.underlying253,Tryz.zeroValue253,by kernel_rfl,by kernel_rfl,by kernel_rfl,by kernel_rfl⟩
def c4S:TI:=⟨1,false,(TypeDesc.func #[105,105] #[3] false),Value.nilFunc,8,false,false,false⟩
theorem c5C:TF Tryz.prog 268 c4S:=⟨Tryz.sizeOf268,Tryz.isAgg268,Tryz.underlying268,Tryz.zeroValue268,by kernel_rfl,by kernel_rfl,by kernel_rfl,by kernel_rfl⟩
def c0F:TI:=⟨1,false,(TypeDesc.slice 49),(Value.slice none 0 0),24,false,false,false⟩
theorem c2R:TF Tryz.prog 269 c0F:=⟨Tryz.sizeOf269,Tryz.isAgg269,Tryz.underlying269,Tryz.zeroValue269,by kernel_rfl,by kernel_rfl,by kernel_rfl,by kernel_rfl⟩
def c4R:TI:=⟨1,false,(TypeDesc.pointer 249),(Value.pointer none),8,false,false,true⟩
theorem c5B:TF Tryz.prog 277 c4R:=⟨Tryz.sizeOf277,Tryz.isAgg277,Tryz.underlying277,Tryz.zeroValue277,by kernel_rfl,by kernel_rfl,by kernel_rfl,by kernel_rfl⟩
def c4Q:TI:=⟨1,false,(TypeDesc.func #[95] #[4] false),Value.nilFunc,8,false,false,false⟩
theorem c5A:TF Tryz.prog 289 c4Q:=⟨Tryz.sizeOf289,Tryz.isAgg289,Tryz.underlying289,Tryz.zeroValue289,by kernel_rfl,by kernel_rfl,by kernel_rfl,by kernel_rfl⟩
def c4P:TI:=⟨1,false,(TypeDesc.func #[308] #[] false),Value.nilFunc,8,false,false,false⟩
theorem c5z:TF Tryz.prog 296 c4P:=⟨Tryz.sizeOf296,Tryz.isAgg296,Tryz.underlying296,Tryz.zeroValue296,by kernel_rfl,by kernel_rfl,by kernel_rfl,by kernel_rfl⟩
def c4O:TI:=⟨1,false,(TypeDesc.func #[91] #[4] false),Value.nilFunc,8,false,false,false⟩
theorem c5y:TF Tryz.prog 308 c4O:=⟨Tryz.sizeOf308,Tryz.isAgg308,Tryz.underlying308,Tryz.zeroValue308,by kernel_rfl,by kernel_rfl,by kernel_rfl,by kernel_rfl⟩
def c4N:TI:=⟨1,false,(TypeDesc.pointer 137),(Value.pointer none),8,false,false,true⟩
theorem c5x:TF Tryz.prog 312 c4N:=⟨Tryz.sizeOf312,Tryz.isAgg312,Tryz.underlying312,Tryz.zeroValue312,by kernel_rfl,by kernel_rfl,by kernel_rfl,by kernel_rfl⟩
def tt:TT:=[(3,ti3),(4,ti4),(5,ti5),(9,ti9),(12,ti12),(20,ti20),(21,ti21),(22,ti22),(23,ti23),(24,ti24),(26,ti26),(29,ti29),(31,ti31),(38,ti38),(43,ti43),(46,ti46),(48,ti48),(49,ti49),(51,ti51),(55,ti55),(59,ti59),(61,ti61),(67,ti67),(68,ti68),(69,ti69),(70,ti70),(72,ti72),(73,ti73),(75,ti75),(77,ti77),(78,ti78),(79,ti79),(85,ti85),(86,ti86),(90,ti90),(91,ti91),(95,ti95),(97,ti97),(98,ti98),(99,ti99),(100,c1q),(101,c1p),(105,c1n),(108,c1l),(110,c1j),(111,c1i),(112,c1h),(113,c5o),(114,c1g),(115,c5n),(116,c1f),(119,c5m),(120,c1d),(121,c1c),(128,c5l),(129,c5k),(131,c1a),(137,c4H),(141,c4G),(145,c5j),(156,c5i),(160,c5h),(161,c5g),(163,c5f),(165,c5e),(191,c0S),(193,c0R),(195,c0Q),(197,c5d),(217,c5c),(227,c5b),(230,c5a),(233,c4Z),(242,c4Y),(245,c4X),(246,c4W),(247,c4V),(249,c4U),(253,c4T),(268,c4S),(269,c0F),(277,c4R),(289,c4Q),(296,c4P),(308,c4O),(312,c4N)]
theorem ttok:TTok Tryz.prog tt:=TTok.cons tf3 (TTok.cons tf4 (TTok.cons tf5 (TTok.cons tf9 (TTok.cons tf12 (TTok.cons tf20 (TTok.cons tf21 (TTok.cons tf22 (TTok.cons tf23 (TTok.cons tf24 (TTok.cons tf26 (TTok.cons tf29 (TTok.cons tf31 (TTok.cons tf38 (TTok.cons tf43 (TTok.cons tf46 (TTok.cons tf48 (TTok.cons tf49 (TTok.cons tf51 (TTok.cons tf55 (TTok.cons tf59 (TTok.cons tf61 (TTok.cons tf67 (TTok.cons tf68 (TTok.cons tf69 (TTok.cons tf70 (TTok.cons tf72 (TTok.cons tf73 (TTok.cons tf75 (TTok.cons tf77 (TTok.cons tf78 (TTok.cons tf79 (TTok.cons tf85 (TTok.cons tf86 (TTok.cons tf90 (TTok.cons tf91 (TTok.cons tf95 (TTok.cons tf97 (TTok.cons tf98 (TTok.cons tf99 (TTok.cons c3C (TTok.cons c3B (TTok.cons c3z (TTok.cons c3x (TTok.cons c3v (TTok.cons c3u (TTok.cons c3t (TTok.cons c5Y (TTok.cons c3s (TTok.cons c5X (TTok.cons c3r (TTok.cons c5W (TTok.cons c3p (TTok.cons c3o (TTok.cons c5V (TTok.cons c5U (TTok.cons c3m (TTok.cons c5q (TTok.cons c5p (TTok.cons c5T (TTok.cons c5S (TTok.cons c5R (TTok.cons c5Q (TTok.cons c5P (TTok.cons c5O (TTok.cons c3e (TTok.cons c3d (TTok.cons c3c (TTok.cons c5N (TTok.cons c5M (TTok.cons c5L (TTok.cons c5K (TTok.cons c5J (TTok.cons c5I (TTok.cons c5H (TTok.cons c5G (TTok.cons c5F (TTok.cons c5E (TTok.cons c5D (TTok.cons c5C (TTok.cons c2R (TTok.cons c5B (TTok.cons c5A (TTok.cons c5z (TTok.cons c5y (TTok.cons c5x (TTok.nil))))))))))))))))))))))))))))))))))))))))))))))))))))))))))))))))))))))))))))))))))))))
end Go.Eng
set_option linter.unusedVariables false
set_option linter.unusedSimpArgs false
namespace Go.Eng
open Go Go.Proofs Go.RowKit Go.Extern.Stop Go.Stop Go.Extern
theorem b0b(t:Addr)(w:World):(ReflectliteValue.unpack (.iface 128 (.pointer (some t)))).run Tryz.prog w
  = .ok (.agg #[.pointer (some ⟨3,128,none⟩),.pointer (some ⟨w.heap.size,0,none⟩),.int .u64 150]) (w.alloc (.cells #[.pointer (some t)] 128)):=by kernel_rfl
theorem b5S(a:Addr)(w:World):(ReflectliteValue.methodAny (ReflectliteValue.valueError "reflectlite.Value.Type" 0) (fun t _ _ _=>ReflectliteType.toType t) #[.agg #[.pointer (some ⟨3,128,none⟩),.pointer (some a),.int .u64 150]]).run Tryz.prog w
  = .ok (.iface 237 (.agg #[.pointer (some ⟨3,128,none⟩)])) w:=by kernel_rfl
theorem a8G(h:Value)(w:World):(Go.method 443 237 (.agg #[h]) "Kind").run Tryz.prog w=.ok (232,h) w:=by kernel_rfl
theorem b5T(w:World):((ReflectliteType.abiMethod fun t=>(fun a:Nat=>Value.int IntKind.u8 (a:Int)) <$> Rtype.kind t) #[.pointer (some ⟨3,128,none⟩)]).run Tryz.prog w=.ok (.int .u8 22) w:=by kernel_rfl
theorem b5U(w:World):((ReflectliteType.abiMethod fun t=>(fun a:Nat=>Value.int IntKind.u8 (a:Int)) <$> Rtype.kind t) #[.pointer (some ⟨3,69,none⟩)]).run Tryz.prog w=.ok (.int .u8 2) w:=by kernel_rfl
theorem rlm(z:Sem Value)(f:TypeId→Addr→Nat→Nat→Sem Value)(v:Value) :
  ReflectliteValue.method z f #[v]=(do match ← ReflectliteValue.parts v with | none=>z | some (t,a,fl)=>f t a fl (fl%32)):=rfl
theorem a7E(a:Addr)(w:World):(ReflectliteValue.parts (.agg #[.pointer (some ⟨3,128,none⟩),.pointer (some a),.int .u64 150])).run Tryz.prog w=.ok (some (128,a,150)) w:=by kernel_rfl
theorem b3p(a p:Addr)(W:World)(ha:W.cell? a=some (.pointer (some p))) :
  (ReflectliteValue.method (ReflectliteValue.valueError "reflectlite.Value.IsNil" 0) ReflectliteValue.isNil #[.agg #[.pointer (some ⟨3,128,none⟩),.pointer (some a),.int .u64 150]]).run Tryz.prog W=.ok (.bool false) W:=by
 rw[rlm];simp only[Sem.run_bind,a7E,Result.andThen];simp[ReflectliteValue.isNil,loadVar,isAgg,underlying,Tryz.underlying128,ha,Result.andThen]
theorem a8H(h:Value)(w:World):(Go.method 443 237 (.agg #[h]) "Elem").run Tryz.prog w=.ok (244,.agg #[h]) w:=by kernel_rfl
theorem a4f(h:Value)(w:World):(Go.method 443 237 (.agg #[h]) "Implements").run Tryz.prog w=.ok (245,.agg #[h]) w:=by kernel_rfl
theorem a3u(h:Value)(w:World):(Go.method 443 237 (.agg #[h]) "AssignableTo").run Tryz.prog w=.ok (242,.agg #[h]) w:=by kernel_rfl
theorem b5V(w:World):(ReflectliteType.method ReflectliteType.elem #[.agg #[.pointer (some ⟨3,128,none⟩)]]).run Tryz.prog w=.ok (.iface 237 (.agg #[.pointer (some ⟨3,69,none⟩)])) w:=by kernel_rfl
theorem a6P(w:World):(ReflectliteType.relation "Implements" ReflectliteType.implements_ #[.agg #[.pointer (some ⟨3,69,none⟩)],.iface 237 (.agg #[.pointer (some ⟨3,31,none⟩)])]).run Tryz.prog w=.ok (.bool true) w:=by kernel_rfl
theorem b1e(v:Value)(w:World):(ReflectliteType.typeOf #[.iface 69 v]).run Tryz.prog w=.ok (.iface 237 (.agg #[.pointer (some ⟨3,69,none⟩)])) w:=by kernel_rfl
theorem a6Q(w:World):(ReflectliteType.relation "AssignableTo" ReflectliteType.assignableTo #[.agg #[.pointer (some ⟨3,69,none⟩)],.iface 237 (.agg #[.pointer (some ⟨3,69,none⟩)])]).run Tryz.prog w=.ok (.bool true) w:=by kernel_rfl
theorem b0c(e:Int)(w:World):(ReflectliteValue.unpack (.iface 69 (.int .i64 e))).run Tryz.prog w
  = .ok (.agg #[.pointer (some ⟨3,69,none⟩),.pointer (some ⟨w.heap.size,0,none⟩),.int .u64 130]) (w.alloc (.cells #[.int .i64 e] 69)):=by kernel_rfl
theorem b1g(w:World):(Rtype.elem? 128).run Tryz.prog w=.ok (some 69) w:=by kernel_rfl
theorem c0q(p:Addr)(w:World):(ReflectliteValue.mk 69 p ReflectliteValue.flagAddr).run Tryz.prog w=.ok (.agg #[.pointer (some ⟨3,69,none⟩),.pointer (some p),.int .u64 386]) w:=by kernel_rfl
theorem b3q(a p:Addr)(W:World)(ha:W.cell? a=some (.pointer (some p))) :
  (ReflectliteValue.method (ReflectliteValue.valueError "reflectlite.Value.Elem" 0) ReflectliteValue.elem #[.agg #[.pointer (some ⟨3,128,none⟩),.pointer (some a),.int .u64 150]]).run Tryz.prog W
   = .ok (.agg #[.pointer (some ⟨3,69,none⟩),.pointer (some p),.int .u64 386]) W:=by
 rw[rlm];simp only[Sem.run_bind,a7E,Result.andThen];simp[ReflectliteValue.elem,loadVar,isAgg,underlying,Tryz.underlying128,ha,Result.andThen,b1g,c0q]
theorem rls(v x:Value):ReflectliteValue.set #[v,x]=(do
  let (some (dst,a,fl),some (src,b,_)):=(←ReflectliteValue.parts v,←ReflectliteValue.parts x)
   | unsupported (.noEntry "extern/(internal/reflectlite.Value).Set.zeroValue")
  if fl/ReflectliteValue.flagAddr%2==0 then unsupported (.noEntry "extern/(internal/reflectlite.Value).Set.unaddressable")
  let val ← loadVar src b
  if ← Rtype.directlyAssignable dst src then storeVar dst a val
  else if ← Rtype.implements dst src then
   if(←Rtype.kind src)==20 then
    match val with
    | .nilIface=>unsupported (.noEntry "extern/reflectlite: a nil value of one interface type handed on as a value of another")
    | _=>storeVar dst a val
   else storeVar dst a (.iface src val)
  else panicString ("reflectlite.Set: value of type " ++ (←Rtype.spelt src)++" is not assignable to type " ++ (←Rtype.spelt dst))
  pure (.tuple #[])):=rfl
theorem b1f(a:Addr)(w:World):(ReflectliteValue.parts (.agg #[.pointer (some ⟨3,69,none⟩),.pointer (some a),.int .u64 386])).run Tryz.prog w=.ok (some (69,a,386)) w:=by kernel_rfl
theorem b3o(a:Addr)(w:World):(ReflectliteValue.parts (.agg #[.pointer (some ⟨3,69,none⟩),.pointer (some a),.int .u64 130])).run Tryz.prog w=.ok (some (69,a,130)) w:=by kernel_rfl
theorem b1h(w:World):(Rtype.directlyAssignable 69 69).run Tryz.prog w=.ok true w:=by kernel_rfl
theorem c2E(w:World):(sizeOf 69).run Tryz.prog w=.ok 1 w:=by kernel_rfl
theorem b7J(ta b:Addr)(e:Int)(old:Value)(W:World)(hb:W.cell? b=some (.int .i64 e))(ht:W.cell? ta=some old)(hf:W.frozen? ta=false) :
  (ReflectliteValue.set #[.agg #[.pointer (some ⟨3,69,none⟩),.pointer (some ta),.int .u64 386],.agg #[.pointer (some ⟨3,69,none⟩),.pointer (some b),.int .u64 130]]).run Tryz.prog W
   = .ok (.tuple #[]) (W.setCell ta (.int .i64 e)):=by
 rw[rls];simp only[Sem.run_bind,b1f,b3o,Result.andThen];simp[ReflectliteValue.flagAddr,loadVar,isAgg,underlying,Tryz.underlying69,hb,Result.andThen,b1h,storeVar,Value.cells,storeCells,Addr.add];rw[run_store Tryz.prog W ta _ _ (by rfl)]
 simp[ht,hf]
set_option maxHeartbeats 4000000 in
theorem c2F(e:Int)(t:Addr)(old:Value)(w:World)(hg:w.cell? ⟨0,0,none⟩=some (.iface 237 (.agg #[.pointer (some ⟨3,31,none⟩)])))(ht0:w.cell? t=some old)(hf0:w.frozen? t=false) :
  Calls Tryz.prog 54 #[.iface 69 (.int .i64 e),.iface 128 (.pointer (some t))] w fun ev w'=>ev=.returned (.bool true)∧w'=((((w.alloc (.cells #[.pointer (some t)] 128)).alloc (.cells #[.pointer (some ⟨3,128,none⟩),.pointer (some ⟨w.heap.size,0,none⟩),.int .u64 150] 179)).alloc (.cells #[.pointer (some ⟨3,128,none⟩),.pointer (some ⟨w.heap.size,0,none⟩),.int .u64 150] 179)).alloc (.cells #[.int .i64 e] 69)).setCell t (.int .i64 e):=by
 have h6:=@run_callFunc_extern Tryz.prog 89 _ (fun args=>ReflectliteValue.unpack (args.getD 0 (.tuple #[]))) Tryz.func89 (by kernel_rfl) (by kernel_rfl) (by kernel_rfl) (by kernel_rfl)
 have h7:=@run_callFunc_extern Tryz.prog 90 _ (ReflectliteValue.methodAny (ReflectliteValue.valueError "reflectlite.Value.Type" 0) (fun t _ _ _=>ReflectliteType.toType t)) Tryz.func90 (by kernel_rfl) (by kernel_rfl) (by kernel_rfl) (by kernel_rfl)
 have h8:=@run_callFunc_extern Tryz.prog 91 _ (ReflectliteValue.method (ReflectliteValue.valueError "reflectlite.Value.IsNil" 0) ReflectliteValue.isNil) Tryz.func91 (by kernel_rfl) (by kernel_rfl) (by kernel_rfl) (by kernel_rfl)
 have h27:=@run_callFunc_extern Tryz.prog 232 _ (ReflectliteType.abiMethod fun t=>do pure (.int .u8 (←Rtype.kind t))) Tryz.func232 (by kernel_rfl) (by kernel_rfl) (by kernel_rfl) (by kernel_rfl)
 have h37:=@run_callFunc_extern Tryz.prog 244 _ (ReflectliteType.method ReflectliteType.elem) Tryz.func244 (by kernel_rfl) (by kernel_rfl) (by kernel_rfl) (by kernel_rfl)
 have h38:=@run_callFunc_extern Tryz.prog 245 _ (ReflectliteType.relation "Implements" ReflectliteType.implements_) Tryz.func245 (by kernel_rfl) (by kernel_rfl) (by kernel_rfl) (by kernel_rfl)
 have h10:=@run_callFunc_extern Tryz.prog 142 _ ReflectliteType.typeOf Tryz.func142 (by kernel_rfl) (by kernel_rfl) (by kernel_rfl) (by kernel_rfl)
 have h35:=@run_callFunc_extern Tryz.prog 242 _ (ReflectliteType.relation "AssignableTo" ReflectliteType.assignableTo) Tryz.func242 (by kernel_rfl) (by kernel_rfl) (by kernel_rfl) (by kernel_rfl)
 have h11:=@run_callFunc_extern Tryz.prog 143 _ (ReflectliteValue.method (ReflectliteValue.valueError "reflectlite.Value.Elem" 0) ReflectliteValue.elem) Tryz.func143 (by kernel_rfl) (by kernel_rfl) (by kernel_rfl) (by kernel_rfl)
 have h12:=@run_callFunc_extern Tryz.prog 144 _ ReflectliteValue.set Tryz.func144 (by kernel_rfl) (by kernel_rfl) (by kernel_rfl) (by kernel_rfl)
 have tO:=b1e;have mA:=a3u;have a25:=a6Q;have v25:=b0c;have f6:=b0b;have f7:=b5S;have mK:=a8G;have mE:=a8H;have mI:=a4f;have k27:=b5T;have k25:=b5U;have e27:=b5V;have i25:=a6P;have n8:=b3p ⟨w.heap.size,0,none⟩ t ((w.alloc (.cells #[.pointer (some t)] 128)).alloc (.cells #[.pointer (some ⟨3,128,none⟩),.pointer (some ⟨w.heap.size,0,none⟩),.int .u64 150] 179)) (by simp)
 have hlt:0<w.heap.size:=by
  rcases Nat.eq_zero_or_pos w.heap.size with h0 | h
  ·simp[World.cell?,h0]at hg
  ·exact h
 have hg2:((w.alloc (.cells #[.pointer (some t)] 128)).alloc (.cells #[.pointer (some ⟨3,128,none⟩),.pointer (some ⟨w.heap.size,0,none⟩),.int .u64 150] 179)).cell? ⟨0,0,none⟩=some (.iface 237 (.agg #[.pointer (some ⟨3,31,none⟩)])):=by
  rw[World.cell?_alloc_lt _ _ ⟨0,0,none⟩ (by simp),World.cell?_alloc_lt _ _ ⟨0,0,none⟩ hlt];exact hg
 have htl:t.block<w.heap.size:=by
  rcases Nat.lt_or_ge t.block w.heap.size with h | h
  ·exact h
  ·simp[World.cell?,Array.getElem?_eq_none h]at ht0
 have el:=b3q ⟨w.heap.size,0,none⟩ t (((w.alloc (.cells #[.pointer (some t)] 128)).alloc (.cells #[.pointer (some ⟨3,128,none⟩),.pointer (some ⟨w.heap.size,0,none⟩),.int .u64 150] 179)).alloc (.cells #[.pointer (some ⟨3,128,none⟩),.pointer (some ⟨w.heap.size,0,none⟩),.int .u64 150] 179)) (by rw[World.cell?_alloc_lt _ _ ⟨w.heap.size,0,none⟩ (by simp;omega)];simp)
 have st:=b7J t ⟨w.heap.size+1+1+1,0,none⟩ e old ((((w.alloc (.cells #[.pointer (some t)] 128)).alloc (.cells #[.pointer (some ⟨3,128,none⟩),.pointer (some ⟨w.heap.size,0,none⟩),.int .u64 150] 179)).alloc (.cells #[.pointer (some ⟨3,128,none⟩),.pointer (some ⟨w.heap.size,0,none⟩),.int .u64 150] 179)).alloc (.cells #[.int .i64 e] 69))
  (by rw[World.cell?_alloc_at _ _ _ _ (by simp)];rfl)
  (by rw[World.cell?_alloc_lt _ _ t (by simp;omega),World.cell?_alloc_lt _ _ t (by simp;omega),World.cell?_alloc_lt _ _ t (by simp;omega),World.cell?_alloc_lt _ _ t htl];exact ht0)
  (by rw[World.frozen?_alloc_old _ _ t (by simp;omega),World.frozen?_alloc_old _ _ t (by simp;omega),World.frozen?_alloc_old _ _ t (by simp;omega),World.frozen?_alloc_old _ _ t (Nat.ne_of_lt htl)];exact hf0)
 go_enter Tryz.func54,Tryz.ntmps54
 go_wp2
 refine wp_loop_rounds 1 ?_;rw[rounds_succ]
 go_wp2
 go_ret
 exact⟨rfl,rfl⟩
end Go.Eng
namespace Go.Eng
open Go Go.RowKit Go.Proofs
def ft:FL:=[(3,some true),(4,some true),(5,some true),(6,some true),(7,some true),(8,some true),(9,some true),(10,some true),(11,some true),(12,some true),(13,some true),(14,some true),(15,some true),(16,some true),(17,some true),(18,some true),(19,some true),(20,some true),(21,some true),(22,some true),(23,some true),(24,some true),(25,some true),(26,some true),(27,some true),(28,some true),(29,some true),(30,some true),(31,some true),(32,some true),(33,some true),(34,some true),(35,some false),(36,some true),(37,some true),(38,some true),(39,some true),(40,some false),(41,some true),(42,some true),(43,some true),(44,some false),(45,some true),(46,some true),(47,some true),(48,some true),(49,some true),(50,some false),(51,some true),(52,some true),(53,some true),(54,some true),(55,some true),(56,some true),(57,some true),(58,some true),(59,some false),(60,some true),(61,some true),(62,some true),(63,some true),(64,some true),(65,some true),(66,some true),(67,some false),(68,some true),(69,some true),(70,some true),(71,some true),(72,some true),(73,some true),(74,some true),(75,some true),(76,some true),(77,some true),(78,some true),(79,some true),(80,some true),(81,some true),(82,some true),(83,some true),(84,some true),(85,some true),(86,some true),(87,some true),(88,some true),(92,some true),(93,some true),(94,some true),(95,some true),(96,some true),(97,some true),(98,some true),(99,some true),(100,some false),(101,some false),(102,some false),(103,some false),(104,some false),(105,some false),(106,some false),(107,some false),(108,some true),(109,some true),(110,some true),(111,some true),(112,some true),(113,some false),(114,some false),(115,some false),(116,some false),(117,some false),(118,some false),(119,some false),(120,some false),(121,some true),(122,some true),(123,some false),(124,some false),(125,some true),(126,some true),(127,some true),(128,some true),(129,some false),(130,some true),(131,some true),(132,some true),(133,some true),(134,some true),(135,some true),(136,some true),(137,some false),(138,some false),(139,some true),(140,some true),(141,some true),(145,some false),(146,some true),(147,some true),(148,some false),(149,some false),(150,some false),(151,some false),(152,some false),(153,some true),(154,some true),(155,some true),(156,some true),(157,some true),(158,some false),(159,some true),(160,none),(161,some false),(162,some true),(163,some false),(164,some true),(165,some false),(166,some true),(167,some false),(168,some true),(169,some true),(170,some true),(171,some true),(172,some true),(173,some true),(174,some false),(175,some false),(176,some true),(177,some true),(178,some false),(179,some true),(180,some true),(181,some true),(182,none),(183,some false),(184,some false),(185,some false),(186,some true),(187,some true),(188,some true),(189,some false),(190,some true),(191,none),(192,some false),(193,some true),(194,some false),(195,some true),(196,some false),(197,some false),(198,some false),(199,some false),(200,some false),(201,some false),(202,some false),(203,some false),(204,some false),(205,none),(206,some false),(207,some true),(208,some false),(209,some true),(210,some true),(211,some false),(212,some false),(213,some false),(214,some false),(215,some true),(216,some false),(217,some true),(235,none),(236,none),(237,some true),(253,none),(254,none),(255,none),(256,none),(257,none),(258,some true)]
theorem ftok:FTok Tryz.prog ft:=FTok.cons Tryz.func3 (by kernel_rfl) rfl (FTok.cons Tryz.func4 (by kernel_rfl) rfl (FTok.cons Tryz.func5 (by kernel_rfl) rfl (FTok.cons Tryz.func6 (by kernel_rfl) rfl (FTok.cons Tryz.func7 (by kernel_rfl) rfl (FTok.cons Tryz.func8 (by kernel_rfl) rfl (FTok.cons Tryz.func9 (by kernel_rfl) rfl (FTok.cons Tryz.func10 (by kernel_rfl) rfl (FTok.cons Tryz.func11 (by kernel_rfl) rfl (FTok.cons Tryz.func12 (by kernel_rfl) rfl (FTok.cons Tryz.func13 (by kernel_rfl) rfl (FTok.cons Tryz.func14 (by kernel_rfl) rfl (FTok.cons Tryz.func15 (by kernel_rfl) rfl (FTok.cons Tryz.func16 (by kernel_rfl) rfl (FTok.cons Tryz.func17 (by kernel_rfl) rfl (FTok.cons Tryz.func18 (by kernel_rfl) rfl (FTok.cons Tryz.func19 (by kernel_rfl) rfl (FTok.cons Tryz.func20 (by kernel_rfl) rfl (FTok.cons Tryz.func21 (by kernel_rfl) rfl (FTok.cons Tryz.func22 (by kernel_rfl) rfl (FTok.cons Tryz.func23 (by kernel_rfl) rfl (FTok.cons Tryz.func24 (by kernel_rfl) rfl (FTok.cons Tryz.func25 (by kernel_rfl) rfl (FTok.cons Tryz.func26 (by kernel_rfl) rfl (FTok.cons Tryz.func27 (by kernel_rfl) rfl (FTok.cons Tryz.func28 (by kernel_rfl) rfl (FTok.cons Tryz.func29 (by kernel_rfl) rfl (FTok.cons Tryz.func30 (by kernel_rfl) rfl (FTok.cons Tryz.func31 (by kernel_rfl) rfl (FTok.cons Tryz.func32 (by kernel_rfl) rfl (FTok.cons Tryz.func33 (by kernel_rfl) rfl (FTok.cons Tryz.func34 (by kernel_rfl) rfl (FTok.cons Tryz.func35 (by kernel_rfl) rfl (FTok.cons Tryz.func36 (by kernel_rfl) rfl (FTok.cons Tryz.func37 (by kernel_rfl) rfl (FTok.cons Tryz.func38 (by kernel_rfl) rfl (FTok.cons Tryz.func39 (by kernel_rfl) rfl (FTok.cons Tryz.func40 (by kernel_rfl) rfl (FTok.cons Tryz.func41 (by kernel_rfl) rfl (FTok.cons Tryz.func42 (by kernel_rfl) rfl (FTok.cons Tryz.func43 (by kernel_rfl) rfl (FTok.cons Tryz.func44 (by kernel_rfl) rfl (FTok.cons Tryz.func45 (by kernel_rfl) rfl (FTok.cons Tryz.func46 (by kernel_rfl) rfl (FTok.cons Tryz.func47 (by kernel_rfl) rfl (FTok.cons Tryz.func48 (by kernel_rfl) rfl (FTok.cons Tryz.func49 (by kernel_rfl) rfl (FTok.cons Tryz.func50 (by kernel_rfl) rfl (FTok.cons Tryz.func51 (by kernel_rfl) rfl (FTok.cons Tryz.func52 (by kernel_rfl) rfl (FTok.cons Tryz.func53 (by kernel_rfl) rfl (FTok.cons Tryz.func54 (by kernel_rfl) rfl (FTok.cons Tryz.func55 (by kernel_rfl) rfl (FTok.cons Tryz.func56 (by kernel_rfl) rfl (FTok.cons Tryz.func57 (by kernel_rfl) rfl (FTok.cons Tryz.func58 (by kernel_rfl) rfl (FTok.cons Tryz.func59 (by kernel_rfl) rfl (FTok.cons Tryz.func60 (by kernel_rfl) rfl (FTok.cons Tryz.func61 (by kernel_rfl) rfl (FTok.cons Tryz.func62 (by kernel_rfl) rfl (FTok.cons Tryz.func63 (by kernel_rfl) rfl (FTok.cons Tryz.func64 (by kernel_rfl) rfl (FTok.cons Tryz.func65 (by kernel_rfl) rfl (FTok.cons Tryz.func66 (by kernel_rfl) rfl (FTok.cons Tryz.func67 (by kernel_rfl) rfl (FTok.cons Tryz.func68 (by kernel_rfl) rfl (FTok.cons Tryz.func69 (by kernel_rfl) rfl (FTok.cons Tryz.func70 (by kernel_rfl) rfl (FTok.cons Tryz.func71 (by kernel_rfl) rfl (FTok.cons Tryz.func72 (by kernel_rfl) rfl (FTok.cons Tryz.func73 (by kernel_rfl) rfl (FTok.cons Tryz.func74 (by kernel_rfl) rfl (FTok.cons Tryz.func75 (by kernel_rfl) rfl (FTok.cons Tryz.func76 (by kernel_rfl) rfl (FTok.cons Tryz.func77 (by kernel_rfl) rfl (FTok.cons Tryz.func78 (by kernel_rfl) rfl (FTok.cons Tryz.func79 (by kernel_rfl) rfl (FTok.cons Tryz.func80 (by kernel_rfl) rfl (FTok.cons Tryz.func81 (by kernel_rfl) rfl (FTok.cons Tryz.func82 (by kernel_rfl) rfl (FTok.cons Tryz.func83 (by kernel_rfl) rfl (FTok.cons Tryz.func84 (by kernel_rfl) rfl (FTok.cons Tryz.func85 (by kernel_rfl) rfl (FTok.cons Tryz.func86 (by kernel_rfl) rfl (FTok.cons Tryz.func87 (by kernel_rfl) rfl (FTok.cons Tryz.func88 (by kernel_rfl) rfl (FTok.cons Tryz.func92 (by kernel_rfl) rfl (FTok.cons Tryz.func93 (by kernel_rfl) rfl (FTok.cons Tryz.func94 (by kernel_rfl) rfl (FTok.cons Tryz.func95 (by kernel_rfl) rfl (FTok.cons Tryz.func96 (by kernel_rfl) rfl (FTok.cons Tryz.func97 (by kernel_rfl) rfl (FTok.cons Tryz.func98 (by kernel_rfl) rfl (FTok.cons Tryz.func99 (by kernel_rfl) rfl (FTok.cons Tryz.func100 (by kernel_rfl) rfl (FTok.cons Tryz.func101 (by kernel_rfl) rfl (FTok.cons Tryz.func102 (by kernel_rfl) rfl (FTok.cons Tryz.func103 (by kernel_rfl) rfl (FTok.cons Tryz.func104 (by kernel_rfl) rfl (FTok.cons Tryz.func105 (by kernel_rfl) rfl (FTok.cons Tryz.func106 (by kernel_rfl) rfl (FTok.cons Tryz.func107 (by kernel_rfl) rfl (FTok.cons Tryz.func108 (by kernel_rfl) rfl (FTok.cons Tryz.func109 (by kernel_rfl) rfl (FTok.cons Tryz.func110 (by kernel_rfl) rfl (FTok.cons Tryz.func111 (by kernel_rfl) rfl (FTok.cons Tryz.func112 (by kernel_rfl) rfl (FTok.cons Tryz.func113 (by kernel_rfl) rfl (FTok.cons Tryz.func114 (by kernel_rfl) rfl (FTok.cons Tryz.func115 (by kernel_rfl) rfl (FTok.cons Tryz.func116 (by kernel_rfl) rfl (FTok.cons Tryz.func117 (by kernel_rfl) rfl (FTok.cons Tryz.func118 (by kernel_rfl) rfl (FTok.cons Tryz.func119 (by kernel_rfl) rfl (FTok.cons Tryz.func120 (by kernel_rfl) rfl (FTok.cons Tryz.func121 (by kernel_rfl) rfl (FTok.cons Tryz.func122 (by kernel_rfl) rfl (FTok.cons Tryz.func123 (by kernel_rfl) rfl (FTok.cons Tryz.func124 (by kernel_rfl) rfl (FTok.cons Tryz.func125 (by kernel_rfl) rfl (FTok.cons Tryz.func126 (by kernel_rfl) rfl (FTok.cons Tryz.func127 (by kernel_rfl) rfl (FTok.cons Tryz.func128 (by kernel_rfl) rfl (FTok.cons Tryz.func129 (by kernel_rfl) rfl (FTok.cons Tryz.func130 (by kernel_rfl) rfl (FTok.cons Tryz.func131 (by kernel_rfl) rfl (FTok.cons Tryz.func132 (by kernel_rfl) rfl (FTok.cons Tryz.func133 (by kernel_rfl) rfl (FTok.cons Tryz.func134 (by kernel_rfl) rfl (FTok.cons Tryz.func135 (by kernel_rfl) rfl (FTok.cons Tryz.func136 (by kernel_rfl) rfl (FTok.cons Tryz.func137 (by kernel_rfl) rfl (FTok.cons Tryz.func138 (by kernel_rfl) rfl (FTok.cons Tryz.func139 (by kernel_rfl) rfl (FTok.cons Tryz.func140 (by kernel_rfl) rfl (FTok.cons Tryz.func141 (by kernel_rfl) rfl (FTok.cons Tryz.func145 (by kernel_rfl) rfl (FTok.cons Tryz.func146 (by kernel_rfl) rfl (FTok.cons Tryz.func147 (by kernel_rfl) rfl (FTok.cons Tryz.func148 (by kernel_rfl) rfl (FTok.cons Tryz.func149 (by kernel_rfl) rfl (FTok.cons Tryz.func150 (by kernel_rfl) rfl (FTok.cons Tryz.func151 (by kernel_rfl) rfl (FTok.cons Tryz.func152 (by kernel_rfl) rfl (FTok.cons Tryz.func153 (by kernel_rfl) rfl (FTok.cons Tryz.func154 (by kernel_rfl) rfl (FTok.cons Tryz.func155 (by kernel_rfl) rfl (FTok.cons Tryz.func156 (by kernel_rfl) rfl (FTok.cons Tryz.func157 (by kernel_rfl) rfl (FTok.cons Tryz.func158 (by kernel_rfl) rfl (FTok.cons Tryz.func159 (by kernel_rfl) rfl (FTok.consX (FTok.cons Tryz.func161 (by kernel_rfl) rfl (FTok.cons Tryz.func162 (by kernel_rfl) rfl (FTok.cons Tryz.func163 (by kernel_rfl) rfl (FTok.cons Tryz.func164 (by kernel_rfl) rfl (FTok.cons Tryz.func165 (by kernel_rfl) rfl (FTok.cons Tryz.func166 (by kernel_rfl) rfl (FTok.cons Tryz.func167 (by kernel_rfl) rfl (FTok.cons Tryz.func168 (by kernel_rfl) rfl (FTok.cons Tryz.func169 (by kernel_rfl) rfl (FTok.cons Tryz.func170 (by kernel_rfl) rfl (FTok.cons Tryz.func171 (by kernel_rfl) rfl (FTok.cons Tryz.func172 (by kernel_rfl) rfl (FTok.cons Tryz.func173 (by kernel_rfl) rfl (FTok.cons Tryz.func174 (by kernel_rfl) rfl (FTok.cons Tryz.func175 (by kernel_rfl) rfl (FTok.cons Tryz.func176 (by kernel_rfl) rfl (FTok.cons Tryz.func177 (by kernel_rfl) rfl (FTok.cons Tryz.func178 (by kernel_rfl) rfl (FTok.cons Tryz.func179 (by kernel_rfl) rfl (FTok.cons Tryz.func180 (by kernel_rfl) rfl (FTok.cons Tryz.func181 (by kernel_rfl) rfl (FTok.consX (FTok.cons Tryz.func183 (by kernel_rfl) rfl (FTok.cons Tryz.func184 (by kernel_rfl) rfl (FTok.cons Tryz.func185 (by kernel_rfl) rfl (FTok.cons Tryz.func186 (by kernel_rfl) rfl (FTok.cons Tryz.func187 (by kernel_rfl) rfl (FTok.cons Tryz.func188 (by kernel_rfl) rfl (FTok.cons Tryz.func189 (by kernel_rfl) rfl (FTok.cons Tryz.func190 (by kernel_rfl) rfl (FTok.consX (FTok.cons Tryz.func192 (by kernel_rfl) rfl (FTok.cons Tryz.func193 (by kernel_rfl) rfl (FTok.cons Tryz.func194 (by kernel_rfl) rfl (FTok.cons Tryz.func195 (by kernel_rfl) rfl (FTok.cons Tryz.func196 (by kernel_rfl) rfl (FTok.cons Tryz.func197 (by kernel_rfl) rfl (FTok.cons Tryz.func198 (by kernel_rfl) rfl (FTok.cons Tryz.func199 (by kernel_rfl) rfl (FTok.cons Tryz.func200 (by kernel_rfl) rfl (FTok.cons Tryz.func201 (by kernel_rfl) rfl (FTok.cons Tryz.func202 (by kernel_rfl) rfl (FTok.cons Tryz.func203 (by kernel_rfl) rfl (FTok.cons Tryz.func204 (by kernel_rfl) rfl (FTok.consX (FTok.cons Tryz.func206 (by kernel_rfl) rfl (FTok.cons Tryz.func207 (by kernel_rfl) rfl (FTok.cons Tryz.func208 (by kernel_rfl) rfl (FTok.cons Tryz.func209 (by kernel_rfl) rfl (FTok.cons Tryz.func210 (by kernel_rfl) rfl (FTok.cons Tryz.func211 (by kernel_rfl) rfl (FTok.cons Tryz.func212 (by kernel_rfl) rfl (FTok.cons Tryz.func213 (by kernel_rfl) rfl (FTok.cons Tryz.func214 (by kernel_rfl) rfl (FTok.cons Tryz.func215 (by kernel_rfl) rfl (FTok.cons Tryz.func216 (by kernel_rfl) rfl (FTok.cons Tryz.func217 (by kernel_rfl) rfl (FTok.consX (FTok.consX (FTok.cons Tryz.func237 (by kernel_rfl) rfl (FTok.consX (FTok.consX (FTok.consX (FTok.consX (FTok.consX (FTok.cons Tryz.func258 (by kernel_rfl) rfl (FTok.nil))))))))))))))))))))))))))))))))))))))))))))))))))))))))))))))))))))))))))))))))))))))))))))))))))))))))))))))))))))))))))))))))))))))))))))))))))))))))))))))))))))))))))))))))))))))))))))))))))))))))))))))))))))))))))
theorem mixed:Tryz.prog.follows .mixedOrders=true:=by kernel_rfl
end Go.Eng
namespace Go.Eng
open Go
theorem a4W(x:Int):IntKind.u32.wrap x=x%4294967296:=by unfold IntKind.wrap IntKind.bits IntKind.signed;simp
theorem a5H(x:Int):IntKind.u64.wrap x=x%18446744073709551616:=by unfold IntKind.wrap IntKind.bits IntKind.signed;simp
theorem w_u8(x:Int):IntKind.u8.wrap x=x%256:=by unfold IntKind.wrap IntKind.bits IntKind.signed;simp
theorem a0s{x:Int}(h1:-9223372036854775808≤x)(h2:x≤9223372036854775807):IntKind.i64.wrap x=x:=by
 unfold IntKind.wrap IntKind.bits IntKind.signed;simp;split <;> omega
theorem a8M{n:Int}(h:(Lit.int .u32 n).wf=true):0≤n∧n≤4294967295:=by
 simp[Lit.wf,IntKind.min,IntKind.max,IntKind.bits,IntKind.signed]at h;omega
theorem c5w{n:Int}(h:(Lit.int .u8 n).wf=true):0≤n∧n≤255:=by
 simp[Lit.wf,IntKind.min,IntKind.max,IntKind.bits,IntKind.signed]at h;omega
theorem c0w{n:Int}(h:(Lit.int .i64 n).wf=true):-9223372036854775808≤n∧n≤9223372036854775807:=by
 simp[Lit.wf,IntKind.min,IntKind.max,IntKind.bits,IntKind.signed]at h;omega
end Go.Eng
namespace Go.Eng
open Go Go.RowKit Go.Proofs
abbrev vu(n:Int):IC:=.v (.int .u32 n)
abbrev vi(n:Int):IC:=.v (.int .i64 n)
abbrev vr(n:Int):IC:=.v (.int .i32 n)
abbrev vci(k:IntKind)(n:Int):AV:=.c (.v (.int k n))
abbrev vcb(b:Bool):AV:=.c (.v (.bool b))
abbrev vcs(s:ByteArray):AV:=.c (.v (.string s))
abbrev nilS:AV:=.c (.v (.slice none 0 0))
theorem a0Q{α:Type}(l:List α)(n j:Nat)(d:α)(h:j<n):(l.take n).getD j d=l.getD j d:=by simp only[List.getD_eq_getElem?_getD,List.getElem?_take,if_pos h]
theorem a1j{α:Type}(l:List α)(i j:Nat)(d:α):(l.drop i).getD j d=l.getD (i+j) d:=by simp only[List.getD_eq_getElem?_getD,List.getElem?_drop]
theorem a0k(n:Nat):(n:Int).toNat=n:=Int.toNat_natCast n
theorem app1{α:Type}{enc:α→List IC}{d:α}{l:List α}{f g:Nat→List IC}{K:Nat→(Nat→List IC)→Prop}(a:α)(hf:∀ k,k<l.length→f k=enc (l.getD k d))(hg:g 0=enc a)(h:K (l++[a]).length fun k=>enc ((l++[a]).getD k d)) :
  ∃(n':Nat) (f':Nat→List IC),n'=l.length+1∧(∀ k,k<l.length→f' k=f k)∧(∀ k,k<1→f' (l.length+k)=g k)∧K n' f':=by
 refine⟨_,_,by simp,fun k hk=>?_,fun k hk=>?_,h⟩
 ·rw[hf k hk]
  simp[List.getD_eq_getElem?_getD,List.getElem?_append_left hk]
 ·obtain rfl:k=0:=by omega
  rw[hg];simp[List.getD_eq_getElem?_getD]
end Go.Eng
namespace Go.Eng
open Go Go.RowKit Go.Proofs
abbrev I2:=Int × Int
def u32P(a:I2):Prop:=(0≤a.1∧a.1≤4294967295)∧0≤a.2∧a.2≤4294967295
abbrev idF(a:I2):List IC:=[vu a.1,vu a.2]
abbrev idA(a:I2):AV:=.agg (idF a)
end Go.Eng
set_option maxHeartbeats 4000000
namespace Go.Eng
open Go Go.RowKit Go.Proofs
structure It where
 id:I2
 left:I2
 right:I2
 ch:Int
def it0:It:=⟨(0,0),(0,0),(0,0),0⟩
abbrev itF(x:It):List IC:=[vu x.id.1,vu x.id.2,vu x.left.1,vu x.left.2,vu x.right.1,vu x.right.2,vr x.ch]
abbrev itS(l:List It):AV:=.c (.sl 7 l.length fun k=>itF (l.getD k it0))
def itOk(x:It):Prop:=u32P x.id∧u32P x.left∧u32P x.right
theorem c2b{x y:It}(h1:x.id.1=y.id.1)(h2:x.id.2=y.id.2)(h3:x.left.1=y.left.1)(h4:x.left.2=y.left.2)(h5:x.right.1=y.right.1)(h6:x.right.2=y.right.2)(h7:x.ch=y.ch):x=y:=by
 obtain⟨⟨a,b⟩,⟨c,d⟩,⟨e,f⟩,g⟩:=x;obtain⟨⟨a',b'⟩,⟨c',d'⟩,⟨e',f'⟩,g'⟩:=y;simp only at h1 h2 h3 h4 h5 h6 h7;rw[h1,h2,h3,h4,h5,h6,h7]
end Go.Eng
namespace Go.Eng
structure Hg where
 on:I2
 right:Bool
deriving instance DecidableEq for Hg
def a9h:Hg:=⟨(0,0),true⟩
abbrev HS:=List (It × Hg)
def il(a b:I2):Prop:=a.1<b.1∨a.1=b.1∧a.2<b.2
theorem b4P(a:I2):¬il a a:=fun h=>by rcases h with h|⟨_,h⟩ <;> omega
theorem b9O{a b c:I2}(h:il a b)(k:il b c):il a c:=by unfold il at *;omega
theorem b2b{a b:I2}(h:a≠b):il a b∨il b a:=by
 unfold il
 have:¬(a.1=b.1∧a.2=b.2):=fun e=>h (Prod.ext e.1 e.2)
 omega
def a3H(h:Hg):Nat:=if h.right=true then 2 else 0
abbrev Ky:=List (Nat × I2)
def elt(a b:Nat × I2):Prop:=a.1<b.1∨a.1=b.1∧il a.2 b.2
theorem c0b(a:Nat × I2):¬elt a a:=fun h=>by
 rcases h with h|⟨_,h⟩
 ·omega
 ·exact b4P _ h
theorem c2r{a b c:Nat × I2}(h:elt a b)(k:elt b c):elt a c:=by
 unfold elt at *;rcases h with h|⟨h1,h2⟩ <;> rcases k with k|⟨k1,k2⟩
 ·exact .inl (by omega)
 ·exact .inl (by omega)
 ·exact .inl (by omega)
 ·exact .inr ⟨by omega,b9O h2 k2⟩
def klt:Ky→Ky→Prop
 | a::p1,b::q1=>elt a b∨a=b∧klt p1 q1
 | _,_=>False
theorem a6w:∀(a:Ky),¬klt a a
 | [],h=>h
 | a::p1,h=>by
  rcases h with h|⟨_,h⟩
  ·exact c0b _ h
  ·exact a6w p1 h
theorem a6v:∀{a b c:Ky},klt a b→klt b c→klt a c
 | [],_,_,h,_=>h.elim
 | _::_,[],_,h,_=>h.elim
 | _::_,_::_,[],_,k=>k.elim
 | a::p1,b::q1,c::r1,h,k=>by
  rcases h with h|⟨rfl,h⟩ <;> rcases k with k|⟨rfl,k⟩
  ·exact Or.inl (c2r h k)
  ·exact Or.inl h
  ·exact Or.inl k
  ·exact Or.inr ⟨rfl,a6v h k⟩
theorem a6x:∀(q:Ky) {a b:Ky},klt a b→klt (q++a) (q++b)
 | [],_,_,h=>h
 | x::q,_,_,h=>Or.inr ⟨rfl,a6x q h⟩
theorem b4H:∀(p:Ky) {u e:Ky},klt (p++u) e→(∃ t,e=p++t∧klt u t)∨∀ v,klt (p++v) e
 | [],u,e,h=>Or.inl ⟨e,rfl,h⟩
 | a::p,u,[],h=>h.elim
 | a::p,u,b::e,h=>by
  rcases h with h|⟨rfl,h⟩
  ·exact Or.inr (fun v=>Or.inl h)
  ·rcases b4H p h with⟨t,rfl,g⟩ | g
   ·exact Or.inl ⟨t,rfl,g⟩
   ·exact Or.inr (fun v=>Or.inr ⟨rfl,g v⟩)
theorem b1S:∀(p:Ky) {u e:Ky},klt e (p++u)→(∃ t,e=p++t∧klt t u)∨∀ v,klt e (p++v)
 | [],u,e,h=>Or.inl ⟨e,rfl,h⟩
 | a::p,u,[],h=>h.elim
 | a::p,u,b::e,h=>by
  rcases h with h|⟨rfl,h⟩
  ·exact Or.inr (fun v=>Or.inl h)
  ·rcases b1S p h with⟨t,rfl,g⟩ | g
   ·exact Or.inl ⟨t,rfl,g⟩
   ·exact Or.inr (fun v=>Or.inr ⟨rfl,g v⟩)
def one1:Nat × I2:=(1,(0,0))
def pth:HS→I2→Ky
 | [],_=>[]
 | (x,h)::r,a=>if a=x.id then pth r h.on++[(a3H h,x.id)]else pth r a
def und:HS→I2→Hg→Option I2
 | [],_,_=>none
 | (x,g)::r,a,h=>if a=x.id then(if g=h then some x.id else und r g.on h)else und r a h
def hasI(hs:HS)(a:I2):Prop:=∃ p,p∈hs∧p.1.id=a
def okH:HS→Prop
 | []=>True
 | (x,h)::r=>okH r∧x.id.1≠0∧(∀ p,p∈r→p.1.id≠x.id)∧(h=a9h∨h.on.1≠0∧hasI r h.on)
theorem a1D:∀{hs:HS} {a:I2},okH hs→hasI hs a→a.1≠0
 | (x,h)::r,a,ho,⟨p,hp,e⟩=>by
  rcases List.mem_cons.1 hp with rfl | hp
  ·rw[←e];exact ho.2.1
  ·exact a1D ho.1 ⟨p,hp,e⟩
theorem a2A{x:It}{h:Hg}{r:HS}{a:I2}(ha:hasI r a):hasI ((x,h)::r) a:=by
 obtain⟨p,hp,e⟩:=ha;exact⟨p,List.mem_cons_of_mem _ hp,e⟩
theorem a7g:∀{hs:HS} {a:I2},¬hasI hs a→pth hs a=[]
 | [],_,_=>rfl
 | (x,h)::r,a,ha=>by
  unfold pth;rw[if_neg (fun e=>ha ⟨(x,h),List.mem_cons_self ..,e.symm⟩)];exact a7g (fun g=>ha (a2A g))
theorem a7a:∀{hs:HS} {a:I2} {h:Hg},¬hasI hs a→und hs a h=none
 | [],_,_,_=>rfl
 | (x,g)::r,a,h,ha=>by
  unfold und;rw[if_neg (fun e=>ha ⟨(x,g),List.mem_cons_self ..,e.symm⟩)];exact a7a (fun g=>ha (a2A g))
theorem c1I{x y:It}{h g:Hg}{r:HS}(ho:okH ((y,g)::r))(hm:(x,h)∈(y,g)::r):h.on≠y.id:=by
 intro e;rcases List.mem_cons.1 hm with he | hm
 ·cases he
  rcases ho.2.2.2 with hr|⟨_,p,hp,hpe⟩
  ·rw[hr]at e
   exact ho.2.1 (by rw[←e];rfl)
  ·exact ho.2.2.1 p hp (hpe.trans e)
 ·have key:∀{r:HS},okH r→(x,h)∈r→h.on.1=0∨hasI r h.on:=by
   intro r
   induction r with
   | nil=>intro _ hm;cases hm
   | cons q r ih =>
    obtain⟨z,k⟩:=q;intro hr hm;rcases List.mem_cons.1 hm with he | hm
    ·cases he
     rcases hr.2.2.2 with h1|⟨_,h1⟩
     ·exact .inl (by rw[h1];rfl)
     ·exact .inr (a2A h1)
    ·rcases ih hr.1 hm with h1 | h1
     ·exact .inl h1
     ·exact .inr (a2A h1)
  rcases key ho.1 hm with h1|⟨p,hp,hpe⟩
  ·exact ho.2.1 (by rw[←e];exact h1)
  ·exact ho.2.2.1 p hp (hpe.trans e)
theorem b4q{x:It}{h:Hg}:∀{r:HS},okH r→(x,h)∈r→h=a9h∨h.on.1≠0∧hasI r h.on
 | (z,k)::r,hr,hm=>by
  rcases List.mem_cons.1 hm with he | hm
  ·cases he
   rcases hr.2.2.2 with h1|⟨h0,h1⟩
   ·exact .inl h1
   ·exact .inr ⟨h0,a2A h1⟩
  ·rcases b4q hr.1 hm with h1|⟨h0,h1⟩
   ·exact .inl h1
   ·exact .inr ⟨h0,a2A h1⟩
theorem a1P{x:It}{h:Hg}:∀{hs:HS},okH hs→(x,h)∈hs→pth hs x.id=pth hs h.on++[(a3H h,x.id)]
 | (y,g)::r,ho,hm=>by
  have hne:=c1I ho hm;have e1:pth ((y,g)::r) h.on=pth r h.on:=by
   show(if h.on=y.id then _ else _)=_
   rw[if_neg hne]
  rw[e1];rcases List.mem_cons.1 hm with he | hm
  ·cases he
   show(if x.id=x.id then _ else _)=_
   rw[if_pos rfl]
  ·show(if x.id=y.id then _ else _)=_
   rw[if_neg (ho.2.2.1 _ hm),a1P ho.1 hm]
theorem a5w{x:It}{h k:Hg}:∀{hs:HS},okH hs→(x,h)∈hs→und hs x.id k=if h=k then some x.id else und hs h.on k
 | (y,g)::r,ho,hm=>by
  have hne:=c1I ho hm;have e1:und ((y,g)::r) h.on k=und r h.on k:=by
   show(if h.on=y.id then _ else _)=_
   rw[if_neg hne]
  rw[e1];rcases List.mem_cons.1 hm with he | hm
  ·cases he
   show(if x.id=x.id then _ else _)=_
   rw[if_pos rfl]
  ·show(if x.id=y.id then _ else _)=_
   rw[if_neg (ho.2.2.1 _ hm),a5w ho.1 hm]
theorem a5z{hs:HS}{a:I2}(ho:okH hs)(ha:hasI hs a):pth hs a≠[]:=by
 obtain⟨⟨x,h⟩,hp,rfl⟩:=ha;rw[a1P ho hp];simp
theorem a6A{hs:HS}{a:I2}(h:pth hs a≠[]):hasI hs a:=by
 by_cases g:hasI hs a
 ·exact g
 ·exact absurd (a7g g) h
theorem b4m{hs:HS}{a b:I2}(ho:okH hs)(ha:hasI hs a)(hb:hasI hs b)(e:pth hs a=pth hs b):a=b:=by
 obtain⟨⟨x,h⟩,hp,rfl⟩:=ha;obtain⟨⟨y,g⟩,hq,rfl⟩:=hb;rw[a1P ho hp,a1P ho hq]at e;have:=(List.append_inj' e rfl).2;simp at this;exact this.2
theorem a7U:∀(hs:HS) (a:I2) (x:Nat × I2),x∈pth hs a→x.1=0∨x.1=2
 | [],a,x,h=>by cases h
 | (y,g)::r,a,x,h=>by
  unfold pth at h;split at h
  ·rcases List.mem_append.1 h with h | h
   ·exact a7U r _ x h
   ·rw[List.mem_singleton]at h
    rw[h];unfold a3H;split
    ·exact .inr rfl
    ·exact .inl rfl
  ·exact a7U r _ x h
theorem b4l{hs:HS}(ho:okH hs):∀(n:Nat) (t:Ky),t.length=n→∀(e:I2) (q:Ky) (s:Nat) (k:I2),hasI hs e→pth hs e=q++(s,k)::t→∃ x h,(x,h)∈hs∧x.id=k∧a3H h=s∧pth hs h.on=q:=by
 intro n
 induction n with
 | zero =>
  intro t ht e q s k he hp;obtain rfl:=List.eq_nil_of_length_eq_zero ht;obtain⟨⟨x,h⟩,hm,rfl⟩:=he;rw[a1P ho hm]at hp;obtain⟨h1,h2⟩:=List.append_inj' hp rfl;simp at h2;exact⟨x,h,hm,h2.2,h2.1,h1⟩
 | succ n ih =>
  intro t ht e q s k he hp;obtain⟨⟨x,h⟩,hm,rfl⟩:=he;rw[a1P ho hm]at hp;obtain⟨t',z,rfl⟩:∃ t' z,t=t'++[z]:=by
   have:t≠[]:=fun e=>by rw[e]at ht;cases ht
   exact⟨t.dropLast,t.getLast this,(List.dropLast_concat_getLast this).symm⟩
  have e2:q++(s,k)::(t'++[z])=(q++(s,k)::t')++[z]:=by simp
  rw[e2]at hp;obtain⟨h1,h2⟩:=List.append_inj' hp rfl;refine ih t' (by simp at ht;omega) h.on q s k (a6A (by rw[h1];simp)) h1
theorem b6y{h g:Hg}(e:a3H h=a3H g)(e2:h.on=g.on):h=g:=by
 obtain⟨a,b⟩:=h;obtain⟨c,d⟩:=g;simp only at e2;subst e2;unfold a3H at e;cases b <;> cases d <;> first | rfl | (simp at e)
theorem a5K{hs:HS}(ho:okH hs):∀(n:Nat) (e:I2) (h:Hg) (k:I2),(pth hs e).length=n→und hs e h=some k→∃ x,(x,h)∈hs∧x.id=k∧∃ t,pth hs e=pth hs k++t:=by
 intro n
 induction n with
 | zero =>
  intro e h k hn hu
  have:¬hasI hs e:=fun g=>a5z ho g (List.eq_nil_of_length_eq_zero hn)
  rw[a7a this]at hu;cases hu
 | succ n ih =>
  intro e h k hn hu;obtain⟨⟨x,g⟩,hm,rfl⟩:hasI hs e:=a6A (fun e=>by rw[e]at hn;cases hn)
  rw[a5w ho hm]at hu;have hp:=a1P ho hm;split at hu
  ·rename_i e
   subst e;cases hu;exact⟨x,hm,rfl,[],by simp⟩
  ·have hn2:(pth hs g.on).length=n:=by rw[hp]at hn;simp at hn;exact hn
   obtain⟨y,h1,h2,t,h3⟩:=ih g.on h k hn2 hu;exact⟨y,h1,h2,t++[(a3H g,x.id)],by rw[hp,h3];simp⟩
theorem c0A{hs:HS}(ho:okH hs){x:It}{h:Hg}(hx:(x,h)∈hs):∀(n:Nat) (t:Ky),t.length=n→∀ e,pth hs e=pth hs x.id++t→(und hs e h).isSome=true:=by
 intro n
 induction n with
 | zero =>
  intro t ht e he;obtain rfl:=List.eq_nil_of_length_eq_zero ht;rw[List.append_nil]at he;have hhx:hasI hs x.id:=⟨(x,h),hx,rfl⟩;have:=b4m ho (a6A (by rw[he];exact a5z ho hhx)) hhx he
  rw[this,a5w ho hx,if_pos rfl];rfl
 | succ n ih =>
  intro t ht e he;have hhx:hasI hs x.id:=⟨(x,h),hx,rfl⟩;obtain⟨⟨y,g⟩,hm,rfl⟩:hasI hs e:=a6A (by rw[he];simp[a5z ho hhx])
  rw[a5w ho hm];split
  ·rfl
  ·obtain⟨t',z,rfl⟩:∃ t' z,t=t'++[z]:=by
    have:t≠[]:=fun e=>by rw[e]at ht;cases ht
    exact⟨t.dropLast,t.getLast this,(List.dropLast_concat_getLast this).symm⟩
   rw[a1P ho hm,←List.append_assoc]at he;exact ih t' (by simp at ht;omega) g.on (List.append_inj' he rfl).1
def okOn(hs:HS)(h:Hg):Prop:=h=a9h∨h.on.1≠0∧hasI hs h.on
theorem c3J{hs:HS}{h g:Hg}(ho:okH hs)(hh:okOn hs h)(hg:okOn hs g)(e:pth hs h.on=pth hs g.on):h.on=g.on:=by
 rcases hh with rfl|⟨h0,h1⟩ <;> rcases hg with rfl|⟨g0,g1⟩
 ·rfl
 ·exact absurd (e▸a7g (fun k=>a1D ho k rfl)) (a5z ho g1)
 ·exact absurd (e.symm▸a7g (fun k=>a1D ho k rfl)) (a5z ho h1)
 ·exact b4m ho h1 g1 e
theorem a7K{hs:HS}(ho:okH hs){e:I2}{h:Hg}(hh:okOn hs h)(k:I2):und hs e h=some k↔∃ t,pth hs e=pth hs h.on++(a3H h,k)::t:=by
 constructor
 ·intro hu
  obtain⟨x,hx,rfl,t,ht⟩:=a5K ho _ e h k rfl hu;exact⟨t,by rw[ht,a1P ho hx];simp⟩
 ·rintro⟨t,ht⟩
  obtain⟨x,g,hx,rfl,hs1,hp⟩:=b4l ho _ t rfl e _ _ k (a6A (by rw[ht];simp)) ht
  have hgo:okOn hs g:=b4q ho hx
  have:g=h:=b6y hs1 (c3J ho hgo hh hp)
  subst this;have hi:=c0A ho hx _ t rfl e (by rw[ht,a1P ho hx];simp)
  cases hu:und hs e g with
  | none=>rw[hu]at hi;cases hi
  | some k =>
   obtain⟨y,hy,rfl,t2,ht2⟩:=a5K ho _ e g k rfl hu;rw[ht,a1P ho hy,List.append_assoc]at ht2;have:=(List.append_cancel_left ht2);simp at this;rw[this.1]
def kyO(hs:HS)(a:I2):Ky:=pth hs a++[one1]
def kyN(hs:HS)(h:Hg)(x:I2):Ky:=pth hs h.on++[(a3H h,x),one1]
theorem b7Z{hs:HS}(ho:okH hs){h:Hg}(hh:okOn hs h){e k x:I2}(hu:und hs e h=some k)(hl:il k x):klt (kyO hs e) (kyN hs h x):=by
 obtain⟨t,ht⟩:=(a7K ho hh k).1 hu;unfold kyO kyN;rw[ht,List.append_assoc];exact a6x _ (Or.inl (Or.inr ⟨rfl,hl⟩))
theorem b8a{hs:HS}(ho:okH hs){h:Hg}(hh:okOn hs h){e k x:I2}(hu:und hs e h=some k)(hl:il x k):klt (kyN hs h x) (kyO hs e):=by
 obtain⟨t,ht⟩:=(a7K ho hh k).1 hu;unfold kyO kyN;rw[ht,List.append_assoc];exact a6x _ (Or.inl (Or.inr ⟨rfl,hl⟩))
theorem b3J{hs:HS}{e:I2}{q t:Ky}(h:kyO hs e=q++t)(hne:t≠[one1])(hn0:t≠[]):∃ b t',t=b::t'∧(b.1=0∨b.1=2)∧∃ t'',pth hs e=q++b::t'':=by
 obtain⟨t',z,rfl⟩:∃ t' z,t=t'++[z]:=⟨t.dropLast,t.getLast hn0,(List.dropLast_concat_getLast hn0).symm⟩;unfold kyO at h;rw[←List.append_assoc]at h;obtain⟨h1,h2⟩:=List.append_inj' h rfl;simp at h2;cases t' with
 | nil=>rw[←h2]at hne;exact absurd rfl hne
 | cons b t' =>
  refine⟨b,t'++[z],rfl,a7U hs e b (by rw[h1];simp),t',h1⟩
theorem b4I{hs:HS}(ho:okH hs){h:Hg}(hh:okOn hs h)(hr:h.right=true){e x:I2}(hu:und hs e h=none)(hlt:klt (kyO hs h.on) (kyO hs e)):klt (kyN hs h x) (kyO hs e):=by
 rcases b4H (pth hs h.on) (u:=[one1]) hlt with⟨t,h1,h2⟩ | h1
 ·exfalso
  obtain⟨b,t',rfl,hb,t'',hp⟩:=b3J h1 (fun e=>a6w _ (e▸h2)) (fun e=>by rw[e]at h2;exact h2)
  rcases h2 with h2|⟨h2,_⟩
  ·have:b.1=2:=by
    rcases hb with hb | hb
    ·rcases h2 with h2|⟨h2,_⟩ <;> (rw[hb]at h2;cases h2)
    ·exact hb
   have:=(a7K ho hh b.2).2 ⟨t'',by rw[hp,show a3H h=2 from by unfold a3H;rw[if_pos hr],←this]⟩
   rw[hu]at this;cases this
  ·rw[←h2]at hb
   rcases hb with hb | hb <;> cases hb
 ·exact h1 _
theorem b7d{hs:HS}(ho:okH hs){h:Hg}(hh:okOn hs h)(hr:h.right=false){e x:I2}(hu:und hs e h=none)(hlt:klt (kyO hs e) (kyO hs h.on)):klt (kyO hs e) (kyN hs h x):=by
 rcases b1S (pth hs h.on) (u:=[one1]) hlt with⟨t,h1,h2⟩ | h1
 ·exfalso
  obtain⟨b,t',rfl,hb,t'',hp⟩:=b3J h1 (fun e=>a6w _ (e▸h2)) (fun e=>by rw[e]at h2;exact h2)
  rcases h2 with h2|⟨h2,_⟩
  ·have:b.1=0:=by
    rcases hb with hb | hb
    ·exact hb
    ·rcases h2 with h2|⟨h2,_⟩
     ·rw[hb]at h2;simp[one1]at h2
     ·rw[hb]at h2;cases h2
   have:=(a7K ho hh b.2).2 ⟨t'',by rw[hp,show a3H h=0 from by unfold a3H;rw[if_neg (by rw[hr];simp)],←this]⟩
   rw[hu]at this;cases this
  ·rw[h2]at hb
   rcases hb with hb | hb <;> cases hb
 ·exact h1 _
end Go.Eng
namespace Go.Eng
abbrev CV:=List (Int × Int)
def srt(l:CV):Prop:=l.Pairwise (fun a b=>a.1<b.1)
def mayV(l:CV):Prop:=srt l∧∀ x∈l,0<x.1∧0<x.2
def nxt(l:CV)(c:Int):Int:=match l.find? (fun x=>x.1==c)with | some x=>x.2 | none=>0
def rset(c n:Int):CV→Bool→CV
 | [],put=>if put then[]else[(c,n)]
 | x::r,put=>(if !put&&decide (c≤x.1)then[(c,n)]else[])++((if x.1=c then[]else[x])++rset c n r (put||decide (c≤x.1)))
def setR(l:CV)(c n:Int):CV:=if c=0 then l else rset c n l (n==0)
theorem a7R(c n:Int)(post:CV)(put:Bool):∀ pre:CV,(∀ x∈pre,x.1<c)→rset c n (pre++post) put=pre++rset c n post put
 | [],_=>rfl
 | x::r,h=>by
  have hx:=h x (by simp)
  have h1:decide (c≤x.1)=false:=decide_eq_false (by omega)
  have h2:¬x.1=c:=by omega
  rw[List.cons_append,rset,h1,if_neg h2];simp only[Bool.and_false,Bool.or_false];rw[a7R c n post put r (fun y hy=>h y (by simp[hy]))]
  simp
theorem a6i(c n:Int):∀ post:CV,(∀ x∈post,c<x.1)→rset c n post true=post
 | [],_=>rfl
 | x::r,h=>by
  have hx:=h x (by simp)
  rw[rset,if_neg (show ¬ x.1=c by omega)]
  simp only[Bool.not_true,Bool.false_and,Bool.true_or];rw[a6i c n r (fun y hy=>h y (by simp[hy]))]
  simp
theorem b6G(c n:Int)(x:Int × Int)(r:CV)(put:Bool)(hx:x.1=c)(h:∀ y∈r,c<y.1):rset c n (x::r) put=(if put then[]else[(c,n)])++r:=by
 have h1:decide (c≤x.1)=true:=decide_eq_true (by omega)
 rw[rset,h1,if_pos hx];simp only[Bool.and_true,Bool.or_true];rw[a6i c n r h];cases put <;> simp
theorem b3Y(c n:Int)(put:Bool):∀ post:CV,(∀ x∈post,c<x.1)→rset c n post put=(if put then[]else[(c,n)])++post
 | [],_=>by rw[rset];simp
 | x::r,h=>by
  have hx:=h x (by simp)
  have h1:decide (c≤x.1)=true:=decide_eq_true (by omega)
  rw[rset,h1,if_neg (show ¬ x.1=c by omega)]
  simp only[Bool.and_true,Bool.or_true];rw[a6i c n r (fun y hy=>h y (by simp[hy]))]
  cases put <;> simp
structure At(l:CV)(c:Int)(i:Nat):Prop where
 le:i≤l.length
 lt:∀ j,j<i→(l.getD j (0,0)).1<c
 ge:∀ j,i≤j→j<l.length→c≤(l.getD j (0,0)).1
theorem a1a{α:Type}{l:List α}{j:Nat}{d:α}(h:j<l.length):l.getD j d∈l:=by
 rw[List.getD_eq_getElem?_getD,List.getElem?_eq_getElem h];exact List.getElem_mem h
theorem a2j{α:Type}{l:List α}{x d:α}(h:x∈l):∃ j,j<l.length∧l.getD j d=x:=by
 obtain⟨j,hj,e⟩:=List.getElem_of_mem h;exact⟨j,hj,by rw[List.getD_eq_getElem?_getD,List.getElem?_eq_getElem hj];exact e⟩
theorem At.pre{l:CV}{c:Int}{i:Nat}(h:At l c i):∀ x∈l.take i,x.1<c:=fun x hx=>by
 obtain⟨j,hj,rfl⟩:=a2j (d:=(0,0)) hx;rw[List.length_take]at hj;rw[List.getD_eq_getElem?_getD,List.getElem?_take,if_pos (by omega),←List.getD_eq_getElem?_getD]
 exact h.lt j (by omega)
theorem a3h{l:CV}(hs:srt l){i j:Nat}(hij:i<j)(hj:j<l.length):(l.getD i (0,0)).1<(l.getD j (0,0)).1:=by
 have:=List.pairwise_iff_getElem.1 hs i j (by omega) hj hij
 rw[List.getD_eq_getElem?_getD,List.getElem?_eq_getElem (by omega),List.getD_eq_getElem?_getD,List.getElem?_eq_getElem hj]
 exact this
theorem At.of{l:CV}(hs:srt l){c:Int}{i:Nat}(hi:i≤l.length)(h1:i=0∨(l.getD (i-1) (0,0)).1<c)(h2:i=l.length∨c≤(l.getD i (0,0)).1):At l c i:=by
 refine⟨hi,fun j hj=>?_,fun j hj hl=>?_⟩
 ·rcases h1 with h1 | h1
  ·omega
  ·rcases Nat.lt_or_ge j (i-1)with h3 | h3
   ·have:=a3h hs h3 (by omega);omega
   ·obtain rfl:j=i-1:=by omega
    exact h1
 ·rcases h2 with h2 | h2
  ·omega
  ·rcases Nat.lt_or_ge i j with h3 | h3
   ·have:=a3h hs h3 hl;omega
   ·obtain rfl:i=j:=by omega
    exact h2
theorem a2B{α:Type}{l:List α}{i:Nat}{d:α}(h:i<l.length):l.drop i=l.getD i d::l.drop (i+1):=by
 rw[List.drop_eq_getElem_cons h,List.getD_eq_getElem?_getD,List.getElem?_eq_getElem h];rfl
theorem At.post_lt{l:CV}(hs:srt l){c:Int}{i:Nat}(h:At l c i)(hi:i<l.length):∀ y∈l.drop (i+1),c<y.1:=fun y hy=>by
 obtain⟨j,hj,rfl⟩:=a2j (d:=(0,0)) hy;rw[List.length_drop]at hj;rw[List.getD_eq_getElem?_getD,List.getElem?_drop,←List.getD_eq_getElem?_getD];have h1:=h.ge i (Nat.le_refl _) hi;have h2:=a3h hs (show i<i+1+j by omega) (by omega)
 omega
theorem a9D{l:CV}{c:Int}(h:∀ x∈l,x.1≠c):l.find? (fun x=>x.1==c)=none:=by
 rw[List.find?_eq_none];intro x hx e;exact h x hx (by simpa using e)
theorem b4u{l:CV}{c:Int}{i:Nat}(h:At l c i)(hi:i<l.length)(hc:(l.getD i (0,0)).1=c):nxt l c=(l.getD i (0,0)).2:=by
 unfold nxt;have e:=List.take_append_drop i l;rw[←e,List.find?_append,a9D (fun x hx=>by have:=h.pre x hx;omega),e,a2B (d:=(0,0)) hi,List.find?_cons_of_pos (by rw[hc];exact beq_self_eq_true c)]
 rfl
theorem b1F{l:CV}(hs:srt l){c:Int}{i:Nat}(h:At l c i)(hn:¬(i<l.length∧(l.getD i (0,0)).1=c)):nxt l c=0:=by
 unfold nxt;rw[a9D];intro x hx e;obtain⟨j,hj,rfl⟩:=a2j (d:=(0,0)) hx;have h1:i≤j:=by
  rcases Nat.lt_or_ge j i with h2 | h2
  ·have:=h.lt j h2;omega
  ·exact h2
 rcases Nat.lt_or_ge i j with h2 | h2
 ·have:=a3h hs h2 hj
  have:=h.ge i (Nat.le_refl _) (by omega)
  omega
 ·obtain rfl:i=j:=by omega
  exact hn ⟨hj,e⟩
theorem a5M{l:CV}(hs:srt l){c n:Int}{i:Nat}(h:At l c i)(hc:c≠0)(hi:i<l.length)(he:(l.getD i (0,0)).1=c):setR l c n=l.take i++(if n=0 then[]else[(c,n)])++l.drop (i+1):=by
 unfold setR;rw[if_neg hc];have e:=List.take_append_drop i l;have h4:=a7R c n (l.drop i) (n==0) (l.take i) h.pre;rw[e]at h4;rw[h4,a2B (d:=(0,0)) hi,b6G c n _ _ _ he (h.post_lt hs hi)]
 by_cases hn:n=0 <;> simp[hn]
theorem a4m{l:CV}(hs:srt l){c n:Int}{i:Nat}(h:At l c i)(hc:c≠0)(hn:¬(i<l.length∧(l.getD i (0,0)).1=c)):setR l c n=l.take i++(if n=0 then[]else[(c,n)])++l.drop i:=by
 have hp:∀ x∈l.drop i,c<x.1:=fun x hx=>by
  rcases Nat.lt_or_ge i l.length with hi | hi
  ·rw[a2B (d:=(0,0)) hi]at hx
   rcases List.mem_cons.1 hx with rfl | hx
   ·have:=h.ge i (Nat.le_refl _) hi
    have h3:¬(l.getD i (0,0)).1=c:=fun e=>hn ⟨hi,e⟩;omega
   ·exact h.post_lt hs hi x hx
  ·rw[List.drop_eq_nil_of_le hi]at hx;cases hx
 unfold setR;rw[if_neg hc];have e:=List.take_append_drop i l;have h4:=a7R c n (l.drop i) (n==0) (l.take i) h.pre;rw[e]at h4;rw[h4,b3Y c n _ _ hp]
 by_cases h5:n=0 <;> simp[h5]
theorem c2D{l:CV}(hs:srt l)(c:Int):∃ i,At l c i:=by
 induction l with
 | nil=>exact⟨0,Nat.le_refl _,fun j hj=>by omega,fun j _ hj=>by simp at hj⟩
 | cons x r ih =>
  have hs':srt r:=(List.pairwise_cons.1 hs).2
  by_cases hx:x.1<c
  ·obtain⟨i,h⟩:=ih hs'
   refine⟨i+1,by simp;exact h.le,fun j hj=>?_,fun j hj hl=>?_⟩
   ·cases j with
    | zero=>simpa using hx
    | succ j=>simpa using h.lt j (by omega)
   ·obtain⟨k,rfl⟩:∃ k,j=k+1:=⟨j-1,by omega⟩
    simpa using h.ge k (by omega) (by simpa using hl)
  ·refine⟨0,Nat.zero_le _,fun j hj=>by omega,fun j _ hl=>?_⟩
   cases j with
   | zero=>simp;omega
   | succ j =>
    have:=a3h hs (show 0<j+1 by omega) hl
    simp at this ⊢;omega
theorem b1E{l:CV}(hs:srt l){x:Int × Int}(hx:x∈l):nxt l x.1=x.2:=by
 obtain⟨j,hj,rfl⟩:=a2j (d:=(0,0)) hx;exact b4u (i:=j) ⟨by omega,fun k hk=>a3h hs hk hj,fun k hk hl=>by
  rcases Nat.lt_or_ge j k with h | h
  ·have:=a3h hs h hl;omega
  ·obtain rfl:j=k:=by omega
   exact Int.le_refl _⟩ hj rfl
theorem a3T{l:CV}{c:Int}(h:nxt l c≠0):(c,nxt l c)∈l:=by
 unfold nxt at h ⊢;cases e:l.find? (fun x=>x.1==c)with
 | none=>rw[e]at h;exact absurd rfl h
 | some x =>
  have h1:=List.find?_some e;have h2:=List.mem_of_find?_eq_some e;have h1:x.1=c:=by simpa using h1
  simp only;rw[←h1];exact h2
theorem b0F{l:CV}(hm:mayV l)(c:Int):0≤nxt l c:=by
 by_cases h:nxt l c=0
 ·omega
 ·have:=hm.2 _ (a3T h);simp at this;omega
theorem b3L:∀{a b:CV},srt a→srt b→(∀ x,x∈a↔x∈b)→a=b
 | [],[],_,_,_=>rfl
 | [],y::s,_,_,h=>by have:=(h y).2 (by simp);cases this
 | x::r,[],_,_,h=>by have:=(h x).1 (by simp);cases this
 | x::r,y::s,ha,hb,h=>by
  have ha':=List.pairwise_cons.1 ha;have hb':=List.pairwise_cons.1 hb;have exy:x=y:=by
   rcases List.mem_cons.1 ((h x).1 (by simp))with e | e
   ·exact e
   ·rcases List.mem_cons.1 ((h y).2 (by simp))with e2 | e2
    ·exact e2.symm
    ·have:=hb'.1 x e;have:=ha'.1 y e2;omega
  subst exy
  have:r=s:=b3L ha'.2 hb'.2 (fun z=>by
   constructor
   ·intro hz
    rcases List.mem_cons.1 ((h z).1 (by simp[hz]))with e | e
    ·subst e;have:=ha'.1 z hz;omega
    ·exact e
   ·intro hz
    rcases List.mem_cons.1 ((h z).2 (by simp[hz]))with e | e
    ·subst e;have:=hb'.1 z hz;omega
    ·exact e)
  rw[this]
theorem b0G{a b:CV}(ha:mayV a)(hb:mayV b)(h:∀ c,nxt a c=nxt b c):a=b:=by
 refine b3L ha.1 hb.1 (fun x=>⟨fun hx=>?_,fun hx=>?_⟩)
 ·have h1:=b1E ha.1 hx
  rw[h]at h1;have h2:=(ha.2 x hx).2;have:=a3T (l:=b) (c:=x.1) (by omega)
  rw[h1]at this;exact this
 ·have h1:=b1E hb.1 hx
  rw[←h]at h1;have h2:=(hb.2 x hx).2;have:=a3T (l:=a) (c:=x.1) (by omega)
  rw[h1]at this;exact this
theorem a4n{l:CV}(hs:srt l){c n:Int}(hc:c≠0)(x:Int × Int):x∈setR l c n↔(x=(c,n)∧n≠0)∨(x∈l∧x.1≠c):=by
 obtain⟨i,h⟩:=c2D hs c;have e:l=l.take i++l.drop i:=(List.take_append_drop i l).symm
 by_cases hh:i<l.length∧(l.getD i (0,0)).1=c
 ·rw[a5M hs h hc hh.1 hh.2]
  have e2:l=l.take i++l.getD i (0,0)::l.drop (i+1):=by rw[←a2B hh.1];exact e
  have h1:x∈l↔x∈l.take i∨x=l.getD i (0,0)∨x∈l.drop (i+1):=by
   constructor
   ·intro hx;rw[e2]at hx;simpa using hx
   ·intro hx;rw[e2];simpa using hx
  rw[h1];have hpre:=h.pre x;have hpost:=h.post_lt hs hh.1 x;simp only[List.mem_append];constructor
  ·rintro((hx | hx) | hx)
   ·have:=hpre hx;exact .inr ⟨.inl hx,by omega⟩
   ·split at hx
    ·cases hx
    ·rename_i hn;exact .inl ⟨by simpa using hx,hn⟩
   ·have:=hpost hx;exact .inr ⟨.inr (.inr hx),by omega⟩
  ·rintro(⟨hx,hn⟩|⟨hx | hx | hx,hne⟩)
   ·exact .inl (.inr (by rw[if_neg hn];simp[hx]))
   ·exact .inl (.inl hx)
   ·rw[hx]at hne;exact absurd hh.2 hne
   ·exact .inr hx
 ·rw[a4m hs h hc hh]
  have h1:x∈l↔x∈l.take i∨x∈l.drop i:=by
   constructor
   ·intro hx;rw[e]at hx;exact List.mem_append.1 hx
   ·intro hx;rw[e];exact List.mem_append.2 hx
  have hne:x∈l→x.1≠c:=fun hx e3=>by
   have h5:=b1F hs h hh;obtain⟨j,hj,rfl⟩:=a2j (d:=(0,0)) hx;rcases Nat.lt_or_ge j i with h2 | h2
   ·have:=h.lt j h2;omega
   ·rcases Nat.lt_or_ge i j with h3 | h3
    ·have:=a3h hs h3 hj
     have:=h.ge i (Nat.le_refl _) (by omega)
     omega
    ·obtain rfl:i=j:=by omega
     exact hh ⟨hj,e3⟩
  simp only[List.mem_append];constructor
  ·rintro((hx | hx) | hx)
   ·exact .inr ⟨h1.2 (.inl hx),hne (h1.2 (.inl hx))⟩
   ·split at hx
    ·cases hx
    ·rename_i hn;exact .inl ⟨by simpa using hx,hn⟩
   ·exact .inr ⟨h1.2 (.inr hx),hne (h1.2 (.inr hx))⟩
  ·rintro(⟨hx,hn⟩|⟨hx,_⟩)
   ·exact .inl (.inr (by rw[if_neg hn];simp[hx]))
   ·rcases h1.1 hx with hx | hx
    ·exact .inl (.inl hx)
    ·exact .inr hx
theorem b1p{l:CV}(hs:srt l)(c n:Int):srt (setR l c n):=by
 by_cases hc:c=0
 ·unfold setR;rw[if_pos hc];exact hs
 obtain⟨i,h⟩:=c2D hs c;have ht:srt (l.take i):=hs.sublist (List.take_sublist i l);have hd:∀ k,srt (l.drop k):=fun k=>hs.sublist (List.drop_sublist k l);have mk:∀ k,(∀ y∈l.drop k,c<y.1)→srt (l.take i++(if n=0 then[]else[(c,n)])++l.drop k):=fun k hk=>by
  unfold srt at *;rw[List.pairwise_append,List.pairwise_append];refine⟨⟨ht,by split <;> simp,fun a ha b hb=>?_⟩,hd k,fun a ha b hb=>?_⟩
  ·split at hb
   ·cases hb
   ·have:b=(c,n):=by simpa using hb
    rw[this];exact h.pre a ha
  ·have:=hk b hb
   rcases List.mem_append.1 ha with ha | ha
   ·have:=h.pre a ha;omega
   ·split at ha
    ·cases ha
    ·have e:a=(c,n):=by simpa using ha
     rw[e];exact this
 by_cases hh:i<l.length∧(l.getD i (0,0)).1=c
 ·rw[a5M hs h hc hh.1 hh.2];exact mk _ (h.post_lt hs hh.1)
 ·rw[a4m hs h hc hh]
  refine mk _ (fun y hy=>?_);rcases Nat.lt_or_ge i l.length with hi | hi
  ·rw[a2B (d:=(0,0)) hi]at hy
   rcases List.mem_cons.1 hy with rfl | hy
   ·have:=h.ge i (Nat.le_refl _) hi
    have h3:¬(l.getD i (0,0)).1=c:=fun e=>hh ⟨hi,e⟩;omega
   ·exact h.post_lt hs hi y hy
  ·rw[List.drop_eq_nil_of_le hi]at hy;cases hy
theorem a4o{l:CV}(hm:mayV l){c n:Int}(hc:0≤c)(hn:0≤n):mayV (setR l c n):=by
 by_cases h0:c=0
 ·unfold setR;rw[if_pos h0];exact hm
 refine⟨b1p hm.1 c n,fun x hx=>?_⟩;rcases(a4n hm.1 h0 x).1 hx with⟨rfl,h⟩|⟨h,_⟩
 ·exact⟨by show 0<c;omega,by show 0<n;omega⟩
 ·exact hm.2 x h
theorem b4t{l:CV}(hs:srt l){c n:Int}(hn:n≠0):nxt l c=n↔(c,n)∈l:=by
 constructor
 ·intro h;have:=a3T (l:=l) (c:=c) (by rw[h];exact hn);rw[h]at this;exact this
 ·intro h;exact b1E hs h
theorem a5i{l:CV}(hm:mayV l){c n:Int}(hc:c≠0)(d:Int):nxt (setR l c n) d=if d=c then n else nxt l d:=by
 have hs2:=b1p hm.1 c n;split
 ·rename_i e
  subst e
  by_cases hn:n=0
  ·subst hn
   by_cases h0:nxt (setR l d 0) d=0
   ·exact h0
   ·have:=a3T h0
    rcases(a4n hm.1 hc _).1 this with⟨_,h⟩|⟨_,h⟩
    ·exact absurd rfl h
    ·exact absurd rfl h
  ·exact(b4t hs2 hn).2 ((a4n hm.1 hc _).2 (.inl ⟨rfl,hn⟩))
 ·rename_i e
  by_cases h0:nxt l d=0
  ·by_cases h1:nxt (setR l c n) d=0
   ·rw[h0,h1]
   ·have:=a3T h1
    rcases(a4n hm.1 hc _).1 this with⟨h,_⟩|⟨h,_⟩
    ·exact absurd (congrArg Prod.fst h) e
    ·have:=b1E hm.1 h;simp only at this;omega
  ·exact(b4t hs2 h0).2 ((a4n hm.1 hc _).2 (.inr ⟨a3T h0,e⟩))
theorem b3V{l:CV}(hm:mayV l){c:Int}(hc:c≠0)(h0:0≤c):setR l c (nxt l c)=l:=by
 refine b0G (a4o hm h0 (b0F hm c)) hm (fun d=>?_);rw[a5i hm hc];split
 ·rename_i e;rw[e]
 ·rfl
end Go.Eng
namespace Go.Eng
def idsH(hs:HS):List I2:=hs.map (fun p=>p.1.id)
theorem b6Z{hs:HS}{a:I2}:a∈idsH hs↔hasI hs a:=by
 unfold idsH hasI;rw[List.mem_map]
structure a0V(hs:HS)(o:List I2):Prop where
 perm:o.Perm (idsH hs)
 srt:o.Pairwise (fun a b=>klt (kyO hs a) (kyO hs b))
theorem b0x{α:Type}{R:α→α→Prop}(hR:∀ a b,R a b→R b a→False):∀{l m:List α},l.Perm m→l.Pairwise R→m.Pairwise R→l=m
 | [],m,hp,_,_=>hp.nil_eq
 | a::l,[],hp,_,_=>by have:=hp.length_eq;cases this
 | a::l,b::m,hp,hl,hm=>by
  rw[List.pairwise_cons]at hl hm;have hab:a=b:=by
   have ha:a∈b::m:=hp.mem_iff.1 (List.mem_cons_self ..);have hb:b∈a::l:=hp.mem_iff.2 (List.mem_cons_self ..);rcases List.mem_cons.1 ha with h | h
   ·exact h
   ·rcases List.mem_cons.1 hb with g | g
    ·exact g.symm
    ·exact(hR _ _ (hl.1 b g) (hm.1 a h)).elim
  subst hab;rw[b0x hR (List.perm_cons _ |>.1 hp) hl.2 hm.2]
theorem a0V.uniq{hs:HS}{o o':List I2}(h:a0V hs o)(h':a0V hs o'):o=o' :=
 b0x (fun a b h1 h2=>a6w _ (a6v h1 h2)) (h.perm.trans h'.perm.symm) h.srt h'.srt
theorem a0V.has{hs:HS}{o:List I2}(h:a0V hs o){a:I2}:a∈o↔hasI hs a:=h.perm.mem_iff.trans b6Z
theorem a7o:∀{hs:HS},okH hs→(idsH hs).Nodup
 | [],_=>List.nodup_nil
 | (x,h)::r,ho=>by
  unfold idsH;rw[List.map_cons,List.nodup_cons];refine⟨fun hm=>?_,a7o ho.1⟩;obtain⟨p,hp,e⟩:=List.mem_map.1 hm;exact ho.2.2.1 p hp e
theorem a0V.nodup{hs:HS}{o:List I2}(ho:okH hs)(h:a0V hs o):o.Nodup:=h.perm.nodup_iff.2 (a7o ho)
theorem b9E{x:It}{h:Hg}{r:HS}(ho:okH ((x,h)::r)){a:I2}(ha:hasI r a):kyO ((x,h)::r) a=kyO r a:=by
 unfold kyO
 congr 1
 show(if a=x.id then _ else _)=_
 rw[if_neg];intro e;obtain⟨p,hp,hpe⟩:=ha;exact ho.2.2.1 p hp (hpe.trans e)
theorem b7Y{x:It}{h:Hg}{r:HS}:kyO ((x,h)::r) x.id=kyN r h x.id:=by
 unfold kyO kyN;show(if x.id=x.id then _ else _)++_=_
 rw[if_pos rfl,List.append_assoc];rfl
theorem b4p{x:It}{h:Hg}{r:HS}{o:List I2}(ho:okH ((x,h)::r))(hO:a0V r o){n:Nat}(hn:n≤o.length)(h1:∀ j,j<n→klt (kyO r (o.getD j (0,0))) (kyN r h x.id))(h2:∀ j,n≤j→j<o.length→klt (kyN r h x.id) (kyO r (o.getD j (0,0)))) :
  a0V ((x,h)::r) (o.take n++[x.id]++o.drop n):=by
 have hk:∀ a,a∈o→kyO ((x,h)::r) a=kyO r a:=fun a ha=>b9E ho (hO.has.1 ha);have hpw:o.Pairwise (fun a b=>klt (kyO ((x,h)::r) a) (kyO ((x,h)::r) b)):=hO.srt.imp_of_mem (fun{a b} ha hb hab=>by rw[hk a ha,hk b hb];exact hab)
 rw[←List.take_append_drop n o,List.pairwise_append]at hpw;obtain⟨p1,p2,p3⟩:=hpw;have ht:∀ a,a∈o.take n→klt (kyO ((x,h)::r) a) (kyO ((x,h)::r) x.id):=fun a ha=>by
  obtain⟨j,hj,rfl⟩:=List.getElem_of_mem ha;rw[hk _ (List.mem_of_mem_take ha),b7Y];have:=h1 j (by simp at hj;omega)
  rw[List.getD_eq_getElem?_getD,List.getElem?_eq_getElem (by simp at hj;omega)]at this
  rw[List.getElem_take];exact this
 have hd:∀ a,a∈o.drop n→klt (kyO ((x,h)::r) x.id) (kyO ((x,h)::r) a):=fun a ha=>by
  obtain⟨j,hj,rfl⟩:=List.getElem_of_mem ha;rw[hk _ (List.mem_of_mem_drop ha),b7Y];have hj2:n+j<o.length:=by simp at hj;omega
  have:=h2 (n+j) (by omega) hj2
  rw[List.getD_eq_getElem?_getD,List.getElem?_eq_getElem hj2]at this;rw[List.getElem_drop];exact this
 refine⟨?_,?_⟩
 ·have:(o.take n++[x.id]++o.drop n).Perm (x.id::o):=by
   have h3:(o.take n++[x.id]++o.drop n).Perm ([x.id]++o.take n++o.drop n):=List.Perm.append_right _ List.perm_append_comm;rw[List.append_assoc,List.append_assoc,List.take_append_drop]at h3;rw[List.append_assoc];exact h3
  exact this.trans (hO.perm.cons _)
 ·rw[List.pairwise_append]
  refine⟨?_,p2,fun a ha b hb=>?_⟩
  ·rw[List.pairwise_append]
   refine⟨p1,List.pairwise_singleton _ _,fun a ha b hb=>?_⟩;rw[List.mem_singleton]at hb;subst hb;exact ht a ha
  ·rcases List.mem_append.1 ha with ha | ha
   ·exact p3 a ha b hb
   ·rw[List.mem_singleton]at ha
    subst ha;exact hd b hb
theorem a7i{hs:HS}{o:List I2}(hO:a0V hs o){i j:Nat}(hij:i<j)(hj:j<o.length):klt (kyO hs (o.getD i (0,0))) (kyO hs (o.getD j (0,0))):=by
 rw[List.getD_eq_getElem?_getD,List.getD_eq_getElem?_getD,List.getElem?_eq_getElem hj,List.getElem?_eq_getElem (by omega)]
 exact List.pairwise_iff_getElem.1 hO.srt i j (by omega) hj hij
theorem a9j{x:It}{h:Hg}{r:HS}{o:List I2}(ho:okH ((x,h)::r))(hO:a0V r o)(hr:h.right=true){s n:Nat}(hs:(h.on.1=0∧s=0)∨∃ q,s=q+1∧q<o.length∧o.getD q (0,0)=h.on)(hsn:s≤n)(hn:n≤o.length)
  (h1:∀ j,s≤j→j<n→∃ k,und r (o.getD j (0,0)) h=some k∧¬il x.id k) (h2:n<o.length→und r (o.getD n (0,0)) h=none∨∃ k,und r (o.getD n (0,0)) h=some k∧il x.id k) :
  a0V ((x,h)::r) (o.take n++[x.id]++o.drop n):=by
 have hoo:okOn r h:=ho.2.2.2;have hne:∀{e k},und r e h=some k→k≠x.id:=fun{e k} hu e2=>by
  obtain⟨y,hy,hk,_⟩:=a5K ho.1 _ e h k rfl hu;exact ho.2.2.1 _ hy (hk.trans e2)
 have hlow:∀ j,j<s→klt (kyO r (o.getD j (0,0))) (kyN r h x.id):=fun j hj=>by
  rcases hs with⟨_,rfl⟩|⟨q,rfl,hq,hqe⟩
  ·omega
  ·have hon:klt (kyO r h.on) (kyN r h x.id):=by
    unfold kyO kyN;exact a6x _ (Or.inl (Or.inl (by unfold a3H;rw[if_pos hr];show(1:Nat)<2;omega)))
   rcases Nat.lt_succ_iff_lt_or_eq.1 hj with g | rfl
   ·exact a6v (hqe▸a7i hO g hq) hon
   ·rw[hqe];exact hon
 refine b4p ho hO hn (fun j hj=>?_) ?_
 ·rcases Nat.lt_or_ge j s with g | g
  ·exact hlow j g
  ·obtain⟨k,hu,hl⟩:=h1 j g hj
   refine b7Z ho.1 hoo hu ?_;rcases b2b (hne hu)with g2 | g2
   ·exact g2
   ·exact absurd g2 hl
 ·have hfirst:n<o.length→klt (kyN r h x.id) (kyO r (o.getD n (0,0))):=fun hnl=>by
   rcases h2 hnl with hu|⟨k,hu,hl⟩
   ·rcases hs with⟨hz,rfl⟩|⟨q,rfl,hq,hqe⟩
    ·exfalso
     have hrt:h=a9h:=by
      rcases hoo with g|⟨g,_⟩
      ·exact g
      ·exact absurd hz g
     subst hrt;have hin:hasI r (o.getD n (0,0)):=hO.has.1 (a1a hnl);obtain⟨⟨y,g⟩,hm,hy⟩:=hin;have:=und_root ho.1 hm;rw[hy,hu]at this;cases this
    ·exact b4I ho.1 hoo hr hu (hqe▸a7i hO (by omega) hnl)
   ·exact b8a ho.1 hoo hu hl
  intro j hj hjl;rcases Nat.lt_or_ge n j with g | g
  ·exact a6v (hfirst (by omega)) (a7i hO g hjl)
  ·obtain rfl:j=n:=by omega
   exact hfirst hjl
where
 und_root {hs:HS} {y:It} {g:Hg} (ho:okH hs) (hm:(y,g)∈hs):(und hs y.id a9h).isSome=true:=by
  have key:∀ n (y:It) (g:Hg),(pth hs y.id).length=n→(y,g)∈hs→(und hs y.id a9h).isSome=true:=by
   intro n
   induction n with
   | zero=>intro y g hn hm;exact absurd (List.eq_nil_of_length_eq_zero hn) (a5z ho ⟨(y,g),hm,rfl⟩)
   | succ n ih =>
    intro y g hn hm;rw[a5w ho hm];split
    ·rfl
    ·rename_i hg
     rcases b4q ho hm with h1|⟨_,⟨z,k⟩,hz,hze⟩
     ·exact absurd h1 hg
     ·rw[a1P ho hm]at hn
      simp at hn;rw[←hze];exact ih z k (by rw[hze];exact hn) hz
  exact key _ y g rfl hm
theorem b6P{x:It}{h:Hg}{r:HS}{o:List I2}(ho:okH ((x,h)::r))(hO:a0V r o)(hr:h.right=false){q n:Nat}(hq:q<o.length)(hqe:o.getD q (0,0)=h.on)(hn:n≤q)
  (h1:∀ j,n≤j→j<q→∃ k,und r (o.getD j (0,0)) h=some k∧¬il k x.id) (h2:0<n→und r (o.getD (n-1) (0,0)) h=none∨∃ k,und r (o.getD (n-1) (0,0)) h=some k∧il k x.id) :
  a0V ((x,h)::r) (o.take n++[x.id]++o.drop n):=by
 have hoo:okOn r h:=ho.2.2.2;have hne:∀{e k},und r e h=some k→x.id≠k:=fun{e k} hu e2=>by
  obtain⟨y,hy,hk,_⟩:=a5K ho.1 _ e h k rfl hu;exact ho.2.2.1 _ hy (hk.trans e2.symm)
 have hon:klt (kyN r h x.id) (kyO r h.on):=by
  unfold kyO kyN;exact a6x _ (Or.inl (Or.inl (by unfold a3H;rw[if_neg (by rw[hr];simp)];show(0:Nat)<1;omega)))
 have hlast:0<n→klt (kyO r (o.getD (n-1) (0,0))) (kyN r h x.id):=fun hn0=>by
  rcases h2 hn0 with hu|⟨k,hu,hl⟩
  ·exact b7d ho.1 hoo hr hu (hqe▸a7i hO (by omega) hq)
  ·exact b7Z ho.1 hoo hu hl
 refine b4p ho hO (by omega) (fun j hj=>?_) (fun j hj hjl=>?_)
 ·rcases Nat.lt_or_ge j (n-1)with g | g
  ·exact a6v (a7i hO g (by omega)) (hlast (by omega))
  ·obtain rfl:j=n-1:=by omega
   exact hlast (by omega)
 ·rcases Nat.lt_trichotomy j q with g | rfl | g
  ·obtain⟨k,hu,hl⟩:=h1 j hj g
   refine b8a ho.1 hoo hu ?_;rcases b2b (hne hu)with g2 | g2
   ·exact g2
   ·exact absurd g2 hl
  ·rw[hqe];exact hon
  ·exact a6v hon (hqe▸a7i hO g hjl)
end Go.Eng
namespace Go.Eng
open Go Go.RowKit Go.Proofs
structure Sp where
 cl:Int
 fr:Int
 tz:Int
def sp0:Sp:=⟨0,0,0⟩
abbrev spF(s:Sp):List IC:=[vu s.cl,vu s.fr,vu s.tz]
abbrev spS(l:List Sp):AV:=.c (.sl 3 l.length fun k=>spF (l.getD k sp0))
def spOk(s:Sp):Prop:=(0≤s.cl∧s.cl≤4294967295)∧(0≤s.fr∧s.fr≤4294967295)∧0≤s.tz∧s.tz≤4294967295
def okAt(l:List Sp)(k:Nat):Prop:=¬((l.getD k sp0).cl=0∨(l.getD k sp0).tz≤(l.getD k sp0).fr) ∧
 (0<k→¬((l.getD k sp0).cl<(l.getD (k-1) sp0).cl∨(l.getD k sp0).cl=(l.getD (k-1) sp0).cl∧(l.getD k sp0).fr≤(l.getD (k-1) sp0).tz))
def mayS(l:List Sp):Prop:=∀ k,k<l.length→okAt l k
def rsI(l:List Sp)(n:Nat)(st:St):Prop:=∃ k:Nat,n=l.length-k∧k≤l.length∧(∀ j,j<k→okAt l j)∧st=⟨58,0,[(0,spS l),(5,spS l),(6,vci .i64 l.length),(7,vci .i64 (k:Int))],[]⟩
theorem c1A(l:List Sp)(hl:l.length≤1000000000):a0f Tryz.prog 73 [spS l] [] (fun r own'=>own'=[]∧∃ b:Bool,(b=true↔mayS l)∧r=vcb b):=by
 refine a0e Tryz.func73 rfl ttok ftok rfl rfl rfl (Nat.le_of_ble_eq_true rfl) ?_
 conv=>whnf
 refine a0B ttok ftok (rsI l) (a0F [0,5,6,7] rfl) ⟨0,rfl,Nat.zero_le _,fun j hj=>by omega,rfl⟩ ?_
 rintro n st ⟨k,rfl,hk,hj,rfl⟩;have e1:IntKind.i64.wrap ((k:Int)+1)=((k+1:Nat):Int):=by rw[a0s (by omega) (by omega)];omega
 conv=>whnf
 refine a0d (fun h=>?_) (fun h=>?_)
 ·have h:=of_decide_eq_true h
  have hk2:k<l.length:=by omega
  have next:okAt l k→∀ j,j<k+1→okAt l j:=fun h j h2=>by
   rcases Nat.lt_succ_iff_lt_or_eq.1 h2 with h3 | rfl
   ·exact hj j h3
   ·exact h
  conv=>whnf
  refine⟨by omega,?_⟩
  conv=>whnf
  simp only[a0k];refine a0d (fun g=>?_) (fun g=>?_)
  ·have hb:(l.getD k sp0).cl=0∨(l.getD k sp0).tz≤(l.getD k sp0).fr:=by
    simp[a0J,a0O,- List.getD_eq_getElem?_getD]at g;exact g
   conv=>whnf
   exact⟨false,⟨fun e=>(nomatch e),fun e=>absurd hb (e k hk2).1⟩,rfl⟩
  have hb:¬((l.getD k sp0).cl=0∨(l.getD k sp0).tz≤(l.getD k sp0).fr):=by
   simp[a0J,a0O,- List.getD_eq_getElem?_getD]at g;omega
  clear g
  conv=>whnf
  refine a2C mixed (by kernel_rfl) ttok ?_
  conv=>whnf
  have e2:0<k→IntKind.i64.wrap ((k:Int)-1)=((k-1:Nat):Int):=fun h0=>by rw[a0s (by omega) (by omega)];omega
  refine⟨?_,?_⟩
  ·conv=>whnf
   intro g1
   conv=>whnf
   have g1:=of_decide_eq_true g1
   try intro g2
   try (conv=>whnf)
   try intro g3
   try (conv=>whnf)
   rw[e2 (by omega)]
   omega
  conv=>whnf
  refine⟨?_,?_⟩
  ·conv=>whnf
   intro g1
   conv=>whnf
   have g1:=of_decide_eq_true g1
   try intro g2
   try (conv=>whnf)
   try intro g3
   try (conv=>whnf)
   rw[e2 (by omega)]
   omega
  conv=>whnf
  refine⟨?_,?_⟩
  ·conv=>whnf
   intro g1
   conv=>whnf
   have g1:=of_decide_eq_true g1
   try intro g2
   try (conv=>whnf)
   try intro g3
   try (conv=>whnf)
   rw[e2 (by omega)]
   omega
  conv=>whnf
  have e3:0<k→(IntKind.i64.wrap ((k:Int)-1)).toNat=k-1:=fun h0=>by rw[e2 h0,a0k]
  refine a0d (fun g=>?_) (fun g=>?_)
  ·simp only[a0J,a0O,Bool.and_eq_true,Bool.or_eq_true,decide_eq_true_eq,beq_iff_eq]at g
   obtain⟨g1,g2⟩:=g;have g1:0<k:=by omega
   rw[e3 g1]at g2
   conv=>whnf
   exact⟨false,⟨fun e=>(nomatch e),fun e=>absurd g2 ((e k hk2).2 g1)⟩,rfl⟩
  ·have hb2:0<k→¬((l.getD k sp0).cl<(l.getD (k-1) sp0).cl∨(l.getD k sp0).cl=(l.getD (k-1) sp0).cl∧(l.getD k sp0).fr≤(l.getD (k-1) sp0).tz):=fun h0 q=>by
    rw[e3 h0]at g
    have:(a0J (decide ((k:Int)>0)) (Operand.tmp 55) (Operand.const (Value.bool false)) (a0J (decide ((l.getD k sp0).cl<(l.getD (k-1) sp0).cl)) (Operand.const (Value.bool true)) (Operand.tmp 54) true
     (a0J ((l.getD k sp0).cl==(l.getD (k-1) sp0).cl) (Operand.tmp 53) (Operand.const (Value.bool false)) (decide ((l.getD k sp0).fr≤(l.getD (k-1) sp0).tz)) false)) false)=true:=by
     simp only[a0J,a0O,Bool.and_eq_true,Bool.or_eq_true,decide_eq_true_eq,beq_iff_eq];exact⟨by omega,q⟩
    rw[this]at g;cases g
   conv=>whnf
   rw[e1];exact⟨l.length-(k+1),_,by omega,a0b [0,5,6,7] [] rfl rfl,k+1,rfl,by omega,next ⟨hb,hb2⟩,rfl⟩
 ·have h:=of_decide_eq_false h
  conv=>whnf
  exact⟨true,⟨fun _ j h2=>hj j (by omega),fun _=>rfl⟩,rfl⟩
theorem b7S{x y:Sp}(h1:x.cl=y.cl)(h2:x.fr=y.fr)(h3:x.tz=y.tz):x=y:=by
 obtain⟨a,b,c⟩:=x;obtain⟨a',b',c'⟩:=y;simp only at h1 h2 h3;rw[h1,h2,h3]
theorem b6v{α:Type}(d:α){a b:List α}(hl:a.length=b.length)(h:∀ j,j<a.length→a.getD j d=b.getD j d):a=b:=by
 refine List.ext_getElem hl (fun j h1 h2=>?_);have:=h j h1;rw[List.getD_eq_getElem?_getD,List.getD_eq_getElem?_getD,List.getElem?_eq_getElem h1,List.getElem?_eq_getElem h2]at this;exact this
def cmpI(x y:Int):Int:=if x<y then -1 else if y<x then 1 else 0
theorem b4L(x:Int):a0f Tryz.prog 110 [vci .u32 x] [] (fun r own'=>own'=[]∧r=vcb false):=by
 refine a0e Tryz.func110 rfl ttok ftok rfl rfl rfl (Nat.le_of_ble_eq_true rfl) ?_
 conv=>whnf
 show vcb (x != x)=_;simp
theorem b5E(x y:Int):a0f Tryz.prog 62 [vci .u32 x,vci .u32 y] [] (fun r own'=>own'=[]∧r=vci .i64 (cmpI x y)):=by
 refine a0e Tryz.func62 rfl ttok ftok rfl rfl rfl (Nat.le_of_ble_eq_true rfl) ?_
 conv=>whnf
 refine a0a (b4L _) rfl ?_;rintro _ rfl
 conv=>whnf
 refine a0a (b4L _) rfl ?_;rintro _ rfl
 conv=>whnf
 unfold cmpI
 by_cases h:x<y
 ·rw[show decide (x<y)=true from decide_eq_true h,if_pos h]
  conv=>whnf
  all_goals rfl
 ·rw[show decide (x<y)=false from decide_eq_false h,if_neg h]
  conv=>whnf
  by_cases h2:y<x
  ·rw[show decide (x>y)=true from decide_eq_true h2,if_pos h2]
   conv=>whnf
   all_goals rfl
  ·rw[show decide (x>y)=false from decide_eq_false h2,if_neg h2]
   conv=>whnf
   all_goals rfl
abbrev i1(n:Int):List IC:=[vi n]
theorem c2M(a b:Int){k:Nat}(hk:k<2):i1 ([a,b].getD k 0)=[i1 a,i1 b].getD k []:=by
 match k,hk with
 | 0,_=>rfl
 | 1,_=>rfl
theorem c0f(a b:Int):a0f Tryz.prog 61 [.c (.sl 1 2 fun k=>i1 ([a,b].getD k 0))] [] (fun r own'=>own'=[]∧r=vci .i64 (if a=0 then b else a)):=by
 refine a0e Tryz.func61 rfl ttok ftok rfl rfl rfl (Nat.le_of_ble_eq_true rfl) ?_
 conv=>whnf
 refine a0N 3 ttok ftok ?_
 conv=>whnf
 refine⟨⟨by omega,by decide⟩,?_⟩
 conv=>whnf
 by_cases ha:a=0
 ·rw[if_pos ha]
  subst ha
  conv=>whnf
  refine⟨⟨by decide,by decide⟩,?_⟩
  conv=>whnf
  by_cases hb:b=0
  ·subst hb
   conv=>whnf
   try rfl
  ·rw[show(([(0:Int),b].getD (Int.toNat (IntKind.i64.wrap (0+1))) 0) != 0)=true from bne_iff_ne.2 hb]
   conv=>whnf
   try rfl
 ·rw[if_neg ha]
  rw[show(([a,b].getD (Int.toNat 0) 0) != 0)=true from bne_iff_ne.2 ha]
  conv=>whnf
  try rfl
theorem b4R(a b:I2):a0f Tryz.prog 37 [idA a,idA b] [] (fun r own'=>own'=[]∧r=vci .i64 (if cmpI a.1 b.1=0 then cmpI a.2 b.2 else cmpI a.1 b.1)):=by
 refine a0e Tryz.func37 rfl ttok ftok rfl rfl rfl (Nat.le_of_ble_eq_true rfl) ?_
 conv=>whnf
 refine a0m (.rd 0 (.rd 1 (.rd 2 (.rd 3 (.rd 5 (.rd 6 (.rd 7 (.rd 8 (.ef 4 (.ef 9 (.ef 10 (.ef 11 (.rd 12 (.nil)))))))))))))) [2] mixed (by kernel_rfl) ttok ftok ?_
 conv=>whnf
 refine a0a (b5E a.1 b.1) rfl ?_;rintro _ rfl
 conv=>whnf
 refine a0a (b5E a.2 b.2) rfl ?_;rintro _ rfl
 conv=>whnf
 refine⟨fun k=>i1 ([cmpI a.1 b.1,cmpI a.2 b.2].getD k 0),fun k hk=>c2M _ _ hk,?_⟩
 conv=>whnf
 refine⟨fun _ _=>rfl,?_⟩
 conv=>whnf
 refine a0a (c0f (cmpI a.1 b.1) (cmpI a.2 b.2)) rfl ?_;rintro _ rfl
 conv=>whnf
 all_goals first | rfl | exact⟨rfl,rfl⟩
end Go.Eng
namespace Go.Eng
open Go Go.RowKit Go.Proofs
abbrev errK(k:Int):AV:=.c (.v (.iface 69 (.int .i64 k)))
theorem a3k(a:I2):a0f Tryz.prog 112 [idA a] [] (fun r own'=>own'=[]∧r=vcb (a.1==0)):=by
 refine a0e Tryz.func112 rfl ttok ftok rfl rfl rfl (Nat.le_of_ble_eq_true rfl) ?_
 conv=>whnf
 try rfl
def aftC(a:I2)(n lim:Int):Int:=if a.1=0∨n<0 then 1 else if lim<a.2∨lim-a.2<n then 4 else 0
def aftV(a:I2)(n lim:Int):AV:=if aftC a n lim=0 then .tup [idA (a.1,a.2+n),.c (.v .nilIface)]else .tup [idA (0,0),errK (aftC a n lim)]
theorem b5Y(a:I2)(ha:u32P a)(n lim:Int)(h1:-9223372036854775808≤n)(h2:n≤9223372036854775807)(h3:0≤lim)(h4:lim≤4294967295):a0f Tryz.prog 111 [idA a,vci .i64 n,vci .u32 lim] [] (fun r own'=>own'=[]∧r=aftV a n lim):=by
 obtain⟨⟨a1,a2⟩,a3,a4⟩:=ha;refine a0e Tryz.func111 rfl ttok ftok rfl rfl rfl (Nat.le_of_ble_eq_true rfl) ?_
 conv=>whnf
 refine a0a (a3k a) rfl ?_;rintro _ rfl
 by_cases z:a.1=0
 ·rw[show(a.1==0)=true from beq_iff_eq.2 z]
  conv=>whnf
  rw[show aftV a n lim=.tup [idA (0,0),errK 1]from by unfold aftV;rw[show aftC a n lim=1 from by unfold aftC;rw[if_pos (.inl z)]];rfl]
  try rfl
 rw[show(a.1==0)=false from beq_eq_false_iff_ne.2 z]
 conv=>whnf
 by_cases z2:n<0
 ·rw[show decide (n<0)=true from decide_eq_true z2]
  conv=>whnf
  rw[show aftV a n lim=.tup [idA (0,0),errK 1]from by unfold aftV;rw[show aftC a n lim=1 from by unfold aftC;rw[if_pos (.inr z2)]];rfl]
  try rfl
 rw[show decide (n<0)=false from decide_eq_false z2]
 conv=>whnf
 have e1:IntKind.u64.wrap n=n:=by rw[a5H];omega
 refine a0d (fun h=>?_) (fun h=>?_)
 ·have z3:lim<a.2∨lim-a.2<n:=by
   simp only[a0J,a0O,e1,Bool.or_eq_true,decide_eq_true_eq]at h;rcases h with h | h
   ·exact .inl h
   ·by_cases q:lim<a.2
    ·exact .inl q
    ·rw[a4W,a5H,Int.emod_eq_of_lt (by omega) (by omega),Int.emod_eq_of_lt (by omega) (by omega)]at h
     exact .inr h
  conv=>whnf
  rw[show aftV a n lim=.tup [idA (0,0),errK 4]from by unfold aftV;rw[show aftC a n lim=4 from by unfold aftC;rw[if_neg (by omega),if_pos z3]];rfl]
  try rfl
 ·have z3:¬(lim<a.2∨lim-a.2<n):=by
   simp only[a0J,a0O,e1,Bool.or_eq_false_iff,decide_eq_false_iff_not]at h;have h2:=h.2;rw[a4W,a5H,Int.emod_eq_of_lt (by omega) (by omega),Int.emod_eq_of_lt (by omega) (by omega)]at h2
   omega
  conv=>whnf
  rw[show IntKind.u32.wrap (a.2+IntKind.u32.wrap n)=a.2+n from by simp only[a4W];omega]
  rw[show aftV a n lim=.tup [idA (a.1,a.2+n),.c (.v .nilIface)]from by unfold aftV;rw[if_pos (by unfold aftC;rw[if_neg (by omega),if_neg z3])]]
  try rfl
def a2V(a b:I2):Prop:=a.1<b.1∨a.1=b.1∧a.2<b.2
instance (a b:I2):Decidable (a2V a b):=by unfold a2V;infer_instance
end Go.Eng
namespace Go.Eng
open Go Go.RowKit Go.Proofs
def a5J(a b:I2):Int:=if cmpI a.1 b.1=0 then cmpI a.2 b.2 else cmpI a.1 b.1
theorem a3E(a b:I2):a5J a b<0↔il a b:=by
 unfold a5J cmpI il;split <;> split <;> (try split) <;> omega
theorem a3F(a b:I2):0<a5J a b↔il b a:=by
 unfold a5J cmpI il;split <;> split <;> (try split) <;> omega
theorem b7B(a b:I2):a5J a b=0↔a=b:=by
 constructor
 ·intro h
  have h1:¬il a b:=fun g=>by have:=(a3E a b).2 g;omega
  have h2:¬il b a:=fun g=>by have:=(a3F a b).2 g;omega
  by_cases e:a=b
  ·exact e
  ·rcases b2b e with g | g
   ·exact absurd g h1
   ·exact absurd g h2
 ·rintro rfl
  have h1:=a3E a a;have h2:=a3F a a;have h3:=b4P a;rcases Int.lt_trichotomy (a5J a a) 0 with g | g | g
  ·exact absurd (h1.1 g) h3
  ·exact g
  ·exact absurd (h2.1 g) h3
theorem b7z(a b:I2):a0f Tryz.prog 37 [idA a,idA b] [] (fun r own'=>own'=[]∧r=vci .i64 (a5J a b)):=b4R a b
end Go.Eng
namespace Go.Eng
structure En where
 id:I2
 ch:Int
 gone:Bool
def en0:En:=⟨(0,0),0,false⟩
instance:Inhabited En:=⟨en0⟩
deriving instance DecidableEq for En
def shn(l:List En):Nat:=l.countP fun e=>!e.gone
abbrev Ck:=List (List En)
def shnC(cs:Ck):Nat:=shn cs.flatten
def plcC:Ck→I2→Option (Nat × Nat)
 | [],_=>none
 | c::cs,a=>match c.findIdx? (fun e=>e.id==a)with
  | some k=>some (0,k)
  | none=>(plcC cs a).map fun p=>(p.1+1,p.2)
def sumL(cs:Ck):Nat:=cs.flatten.length
theorem b3K(c:List En)(cs:Ck):sumL (c::cs)=c.length+sumL cs:=by simp[sumL]
theorem a1Y(a b:Ck):sumL (a++b)=sumL a+sumL b:=by simp[sumL]
theorem b0q(a b:Ck):shnC (a++b)=shnC a+shnC b:=by simp[shnC,shn]
theorem a4y(c:List En)(cs:Ck)(a:I2):plcC (c::cs) a=match c.findIdx? (fun e=>e.id==a)with | some k=>some (0,k) | none=>(plcC cs a).map fun p=>(p.1+1,p.2):=rfl
theorem a4x:∀(cs:Ck) (a:I2),(plcC cs a).map (fun p=>sumL (cs.take p.1)+p.2)=cs.flatten.findIdx? (fun e=>e.id==a)
 | [],a=>rfl
 | c::cs,a=>by
  rw[List.flatten_cons,List.findIdx?_append,←a4x cs a,a4y];cases h:c.findIdx? (fun e=>e.id==a)with
  | some k=>simp[sumL]
  | none =>
   cases h2:plcC cs a with
   | none=>simp
   | some p=>simp[sumL,Nat.add_assoc,Nat.add_comm,Nat.add_left_comm]
theorem b0A{cs:Ck}{a:I2}{i k:Nat}(h:plcC cs a=some (i,k)):i<cs.length∧k<(cs.getD i []).length:=by
 induction cs generalizing i with
 | nil=>cases h
 | cons c cs ih =>
  unfold plcC at h;cases h2:c.findIdx? (fun e=>e.id==a)with
  | some q =>
   rw[h2]at h;cases h;rw[List.findIdx?_eq_some_iff_findIdx_eq]at h2;exact⟨by simp,by simpa using h2.1⟩
  | none =>
   rw[h2]at h;cases h3:plcC cs a with
   | none=>rw[h3]at h;cases h
   | some p =>
    rw[h3]at h;cases h;have:=ih h3;exact⟨by simpa using this.1,by simpa using this.2⟩
def a1w(l:List En)(k:Nat):List En:=l.set k { l.getD k en0 with gone:=true }
theorem b2m{cs:Ck}{i at_:Nat}(hi:i<cs.length)(ha:at_≤(cs.getD i []).length)(m:Ck)(e:En)(hm:m.flatten=(cs.getD i []).take at_++[e]++(cs.getD i []).drop at_) :
  (cs.take i++m++cs.drop (i+1)).flatten=cs.flatten.take (sumL (cs.take i)+at_)++[e]++cs.flatten.drop (sumL (cs.take i)+at_):=by
 have g:cs=cs.take i++(cs.getD i []::cs.drop (i+1)):=by
  rw[List.getD_eq_getElem?_getD,List.getElem?_eq_getElem hi];exact(List.take_append_drop i cs).symm.trans (by rw[List.drop_eq_getElem_cons hi];rfl)
 have f:cs.flatten=(cs.take i).flatten++(cs.getD i []++(cs.drop (i+1)).flatten):=by
  conv=>lhs;rw[g]
  rw[List.flatten_append,List.flatten_cons]
 rw[f,List.flatten_append,List.flatten_append,hm];unfold sumL;rw[List.take_append,List.drop_append,List.take_of_length_le (Nat.le_add_right _ _),List.drop_of_length_le (Nat.le_add_right _ _),Nat.add_sub_cancel_left,List.take_append_of_le_length ha,List.drop_append_of_le_length ha];simp
theorem b5h{cs:Ck}{i k:Nat}(hi:i<cs.length)(hk:k<(cs.getD i []).length):(cs.take i++[a1w (cs.getD i []) k]++cs.drop (i+1)).flatten=a1w cs.flatten (sumL (cs.take i)+k):=by
 have g:cs=cs.take i++(cs.getD i []::cs.drop (i+1)):=by
  rw[List.getD_eq_getElem?_getD,List.getElem?_eq_getElem hi];exact(List.take_append_drop i cs).symm.trans (by rw[List.drop_eq_getElem_cons hi];rfl)
 have f:cs.flatten=(cs.take i).flatten++(cs.getD i []++(cs.drop (i+1)).flatten):=by
  conv=>lhs;rw[g]
  rw[List.flatten_append,List.flatten_cons]
 rw[f,List.flatten_append,List.flatten_append];unfold a1w sumL;generalize cs.getD i []=c at hk ⊢;generalize (cs.take i).flatten=p;generalize (cs.drop (i+1)).flatten=q;rw[List.set_append,if_neg (by omega),Nat.add_sub_cancel_left,List.set_append,if_pos hk]
 have:(p++(c++q)).getD (p.length+k) en0=c.getD k en0:=by
  rw[List.getD_eq_getElem?_getD,List.getElem?_append_right (by omega),Nat.add_sub_cancel_left,List.getElem?_append_left hk,←List.getD_eq_getElem?_getD]
 rw[this];simp
def shp:List En→Nat→List Nat
 | [],_=>[]
 | e::l,n=>if e.gone=true then shp l (n+1)else n::shp l (n+1)
theorem a6e:∀(l:List En) (n:Nat),(shp l n).length=shn l
 | [],_=>rfl
 | e::l,n=>by
  unfold shp shn;rw[List.countP_cons];have:=a6e l (n+1);unfold shn at this;cases h:e.gone <;> simp[this]
theorem a5d:∀(a b:List En) (n:Nat),shp (a++b) n=shp a n++shp b (n+a.length)
 | [],b,n=>by simp[shp]
 | e::a,b,n=>by
  have:=a5d a b (n+1);rw[List.cons_append,shp,shp,this,List.length_cons,show n+1+a.length=n+(a.length+1)from by omega]
  split
  ·rfl
  ·rfl
end Go.Eng
namespace Go.Eng
open Go Go.RowKit Go.Proofs
abbrev enF(e:En):List IC:=[vu e.id.1,vu e.id.2,vr e.ch,.v (.bool e.gone)]
abbrev enR(l:List En):Nat→List IC:=fun k=>enF (l.getD k en0)
abbrev enS(l:List En):AV:=.c (.sl 4 l.length (enR l))
abbrev chF(c:List En):List IC:=[.sl 4 c.length (enR c),vi (shn c:Int)]
abbrev chR(cs:Ck):Nat→List IC:=fun k=>chF (cs.getD k [])
abbrev chS(cs:Ck):AV:=.c (.sl 2 cs.length (chR cs))
abbrev ixF(cs:Ck):List IC:=[.sl 2 cs.length (chR cs),vi (sumL cs:Int),vi (shnC cs:Int)]
abbrev ixA(cs:Ck):AV:=.agg (ixF cs)
theorem e64{k:Nat}(hk:k≤1000000000000):IntKind.i64.wrap ((k:Int)+1)=((k+1:Nat):Int):=by rw[a0s (by omega) (by omega)];omega
theorem a7c{l:List En}{k:Nat}(h:k<l.length):l.take (k+1)=l.take k++[l.getD k en0]:=by
 rw[List.take_add_one,List.getD_eq_getElem?_getD,List.getElem?_eq_getElem h];rfl
theorem b6z(l:List En)(e:En):shn (l++[e])=shn l+if e.gone=true then 0 else 1:=by
 unfold shn;rw[List.countP_append];cases h:e.gone <;> simp[h]
theorem b0o(l:List En):shn l≤l.length:=List.countP_le_length
def pkI(l:List En)(n:Nat)(st:St):Prop:=∃ k:Nat,n=l.length-k∧k≤l.length ∧
 st=⟨23,0,[(2,.c (.own 0 0)),(3,.c (.own 1 0)),(8,enS l),(9,vci .i64 (l.length:Int)),(10,vci .i64 (k:Int))],[some (.cells 137 [.v (.slice none 0 0),vi 0]),some (.cells 137 [.sl 4 l.length (enR l),vi (shn (l.take k):Int)])]⟩
theorem a9m(l:List En)(hl:l.length≤100000000):a0f Tryz.prog 173 [enS l] [] (fun r own'=>own'=[]∧r=.agg (chF l)):=by
 refine a0e Tryz.func173 rfl ttok ftok rfl rfl rfl (Nat.le_of_ble_eq_true rfl) ?_
 conv=>whnf
 refine a0B ttok ftok (pkI l) (a0b [2,3,8,9,10] [some 0,some 1] rfl rfl) ⟨0,rfl,Nat.zero_le _,rfl⟩ ?_;rintro n st ⟨k,rfl,hk,rfl⟩;have e1:=e64 (k:=k) (by omega)
 conv=>whnf
 refine a0d (fun h=>?_) (fun h=>?_)
 ·have h:=of_decide_eq_true h
  have hkl:k<l.length:=by omega
  have hs:=b6z (l.take k) (l.getD k en0);rw[←a7c hkl]at hs;have hsl:=b0o (l.take k);rw[List.length_take]at hsl
  conv=>whnf
  refine⟨⟨by omega,by omega⟩,?_⟩
  conv=>whnf
  rw[a0k];cases hg:(l.getD k en0).gone with
  | true =>
   rw[hg,if_pos rfl,Nat.add_zero]at hs
   conv=>whnf
   rw[e1];refine⟨l.length-(k+1),_,by omega,a0b [2,3,8,9,10] [some 0,some 1] rfl rfl,k+1,rfl,by omega,?_⟩
   rw[hs]
   all_goals rfl
  | false =>
   rw[hg,if_neg (by decide)]at hs
   conv=>whnf
   rw[e1,e64 (by omega),←hs]
   refine⟨l.length-(k+1),_,by omega,a0b [2,3,8,9,10] [some 0,some 1] rfl rfl,k+1,rfl,by omega,rfl⟩
 ·have h:=of_decide_eq_false h
  have hk2:k=l.length:=by omega
  subst hk2;rw[List.take_length]
  conv=>whnf
  all_goals first | rfl | exact⟨rfl,rfl⟩
theorem a5a{cs:Ck}{k:Nat}(h:k<cs.length):cs.take (k+1)=cs.take k++[cs.getD k []]:=by
 rw[List.take_add_one,List.getD_eq_getElem?_getD,List.getElem?_eq_getElem h];rfl
theorem a2p(cs:Ck)(k:Nat):sumL (cs.take k)≤sumL cs:=by
 conv=>rhs;rw[←List.take_append_drop k cs]
 rw[a1Y];omega
theorem b0p(cs:Ck):shnC cs≤sumL cs:=b0o _
theorem a2K{cs:Ck}{k:Nat}(h:k<cs.length):sumL (cs.take (k+1))=sumL (cs.take k)+(cs.getD k []).length:=by
 rw[a5a h,a1Y];simp[sumL]
theorem b3T{cs:Ck}{k:Nat}(h:k<cs.length):shnC (cs.take (k+1))=shnC (cs.take k)+shn (cs.getD k []):=by
 rw[a5a h,b0q];simp[shnC]
def wiI(cs:Ck)(n:Nat)(st:St):Prop:=∃ k:Nat,n=cs.length-k∧k≤cs.length ∧
 st=⟨29,0,[(2,.c (.own 0 0)),(3,.c (.own 1 0)),(8,chS cs),(9,vci .i64 (cs.length:Int)),(10,vci .i64 (k:Int))],[some (.cells 72 [.v (.slice none 0 0),vi 0,vi 0]),some (.cells 72 [.sl 2 cs.length (chR cs),vi (sumL (cs.take k):Int),vi (shnC (cs.take k):Int)])]⟩
theorem b7M(cs:Ck)(hl:cs.length≤100000000)(hs:sumL cs≤100000000):a0f Tryz.prog 188 [chS cs] [] (fun r own'=>own'=[]∧r=ixA cs):=by
 refine a0e Tryz.func188 rfl ttok ftok rfl rfl rfl (Nat.le_of_ble_eq_true rfl) ?_
 conv=>whnf
 refine a0B ttok ftok (wiI cs) (a0b [2,3,8,9,10] [some 0,some 1] rfl rfl) ⟨0,rfl,Nat.zero_le _,rfl⟩ ?_;rintro n st ⟨k,rfl,hk,rfl⟩;have e1:=e64 (k:=k) (by omega)
 conv=>whnf
 refine a0d (fun h=>?_) (fun h=>?_)
 ·have h:=of_decide_eq_true h
  have hkl:k<cs.length:=by omega
  have s1:=a2K hkl;have s2:=b3T hkl;have s3:=a2p cs (k+1);have s4:=b0p (cs.take (k+1))
  conv=>whnf
  refine⟨⟨by omega,by omega⟩,?_⟩
  conv=>whnf
  rw[a0k];rw[e1,show IntKind.i64.wrap ((sumL (cs.take k):Int)+((cs.getD k []).length:Int))=(sumL (cs.take (k+1)):Int)from by rw[a0s (by omega) (by omega)];omega]
  rw[show IntKind.i64.wrap ((shnC (cs.take k):Int)+(shn (cs.getD k []):Int))=(shnC (cs.take (k+1)):Int)from by rw[a0s (by omega) (by omega)];omega]
  exact⟨cs.length-(k+1),_,by omega,a0b [2,3,8,9,10] [some 0,some 1] rfl rfl,k+1,rfl,by omega,rfl⟩
 ·have h:=of_decide_eq_false h
  have hk2:k=cs.length:=by omega
  subst hk2;rw[List.take_length]
  conv=>whnf
  all_goals first | rfl | exact⟨rfl,rfl⟩
theorem c1U(cs:Ck):a0f Tryz.prog 181 [ixA cs] [] (fun r own'=>own'=[]∧r=vci .i64 (sumL cs:Int)):=by
 refine a0e Tryz.func181 rfl ttok ftok rfl rfl rfl (Nat.le_of_ble_eq_true rfl) ?_
 conv=>whnf
 all_goals first | rfl | exact⟨rfl,rfl⟩
theorem b8U(cs:Ck):a0f Tryz.prog 93 [ixA cs] [] (fun r own'=>own'=[]∧r=vci .i64 (shnC cs:Int)):=by
 refine a0e Tryz.func93 rfl ttok ftok rfl rfl rfl (Nat.le_of_ble_eq_true rfl) ?_
 conv=>whnf
 all_goals first | rfl | exact⟨rfl,rfl⟩
def alI(cs:Ck)(n:Nat)(st:St):Prop:=∃ k:Nat,n=cs.length-k∧k≤cs.length ∧
 st=⟨19,0,[(3,.c (.row 0)),(7,chS cs),(8,vci .i64 (cs.length:Int)),(9,vci .i64 (k:Int))],[some (.row 95 4 (cs.take k).flatten.length (enR (cs.take k).flatten))]⟩
theorem b5X(cs:Ck)(hl:cs.length≤1000000)(hs:sumL cs≤1000000):a0f Tryz.prog 32 [ixA cs] [] (fun r own'=>own'=[]∧r=enS cs.flatten):=by
 refine a0e Tryz.func32 rfl ttok ftok rfl rfl rfl (Nat.le_of_ble_eq_true rfl) ?_
 conv=>whnf
 refine a0B ttok ftok (alI cs) ((a0M 3 95 4 (enR []) rfl).trans (a0b [3,7,8,9] [some 1] rfl rfl)) ⟨0,rfl,Nat.zero_le _,rfl⟩ ?_;rintro n st ⟨k,rfl,hk,rfl⟩;have e1:=e64 (k:=k) (by omega)
 conv=>whnf
 refine a0d (fun h=>?_) (fun h=>?_)
 ·have h:=of_decide_eq_true h
  have hkl:k<cs.length:=by omega
  have s1:=a2K hkl;have s3:=a2p cs (k+1);have hf:(cs.take (k+1)).flatten=(cs.take k).flatten++cs.getD k []:=by rw[a5a hkl];simp
  unfold sumL at s1 s3 hs
  conv=>whnf
  refine⟨⟨by omega,by omega⟩,?_⟩
  conv=>whnf
  rw[a0k];refine⟨⟨by omega,by show((cs.take k).flatten.length+(cs.getD k []).length)*16≤_;omega⟩,?_⟩
  conv=>whnf
  refine b2C (enc:=enF) (d:=en0) (l:=(cs.take k).flatten) (b:=cs.getD k []) (fun k hk=>rfl) (fun k hk=>rfl) ?_
  conv=>whnf
  rw[e1,←hf];exact⟨cs.length-(k+1),_,by omega,a0b [3,7,8,9] [some 2] rfl rfl,k+1,rfl,by omega,rfl⟩
 ·have h:=of_decide_eq_false h
  have hk2:k=cs.length:=by omega
  subst hk2;rw[List.take_length]
  conv=>whnf
  refine⟨fun _ _=>rfl,?_⟩
  conv=>whnf
  all_goals first | rfl | exact⟨rfl,rfl⟩
end Go.Eng
namespace Go.Eng
open Go Go.RowKit Go.Proofs
def b5v(O:List (Option Ob))(l:List En)(p:En→Bool)(caps:List (Bool × List IC))(n:Nat)(st:St):Prop:=∃ k:Nat,n=l.length-k∧k≤l.length∧(∀ j,j<k→p (l.getD j en0)=false) ∧
 st=⟨19,O.length,[(0,.c (.sl 4 l.length fun k=>enF (l.getD k en0))),(1,.c (.fn 187 caps)),(7,vci .i64 l.length),(8,vci .i64 (k:Int))],O⟩
theorem b7t(O:List (Option Ob))(l:List En)(hl:l.length≤1000000000)(caps:List (Bool × List IC))(p:En→Bool)
  (hp:∀ k,k<l.length→a0f Tryz.prog 187 (.agg (enF (l.getD k en0))::a2f caps) O (fun r own'=>r=vcb (p (l.getD k en0))∧own'=O)) :
  a0f Tryz.prog 186 [.c (.sl 4 l.length fun k=>enF (l.getD k en0)),.c (.fn 187 caps)] O (fun r own'=>(∃ k:Nat,k<l.length∧p (l.getD k en0)=true∧(∀ j,j<k→p (l.getD j en0)=false)∧r=vci .i64 k∧own'=O) ∨
   ((∀ j,j<l.length→p (l.getD j en0)=false)∧r=vci .i64 (-1)∧own'=O)):=by
 refine a1C Tryz.func186 rfl ttok ftok rfl rfl rfl (Nat.le_of_ble_eq_true rfl) ?_
 conv=>whnf
 refine a0B ttok ftok (b5v O l p caps) (a0F [0,1,7,8] rfl) ⟨0,rfl,Nat.zero_le _,fun j hj=>by omega,rfl⟩ ?_
 rintro n st ⟨k,rfl,hk,hj,rfl⟩
 conv=>whnf
 refine a0d (fun h=>?_) (fun h=>?_)
 ·have h:=of_decide_eq_true h
  have hkl:k<l.length:=by omega
  conv=>whnf
  rw[a0q]
  conv=>whnf
  refine⟨⟨by omega,by omega⟩,?_⟩
  conv=>whnf
  refine(hp k hkl).mono ?_;rintro r own2 ⟨rfl,rfl⟩
  conv=>whnf
  cases hpk:p (l.getD k en0)with
  | true =>
   conv=>whnf
   refine⟨_,Weak.refl _,?_⟩
   conv=>whnf
   exact .inl ⟨k,hkl,hpk,hj,rfl,rfl⟩
  | false =>
   conv=>whnf
   refine⟨l.length-(k+1),_,by omega,a0F [0,1,7,8] rfl,k+1,rfl,by omega,fun j hj2=>?_,?_⟩
   ·rcases Nat.lt_succ_iff_lt_or_eq.1 hj2 with h2 | rfl
    ·exact hj j h2
    ·exact hpk
   rw[show(((k+1:Nat)):Int)=IntKind.i64.wrap ((k:Int)+1)from by rw[a0s (by omega) (by omega)];omega]
   all_goals rfl
 ·have h:=of_decide_eq_false h
  conv=>whnf
  refine⟨_,Weak.refl _,?_⟩
  conv=>whnf
  exact .inr ⟨fun j hj2=>hj j (by omega),rfl,rfl⟩
theorem c2i(x a:I2):(x.1==a.1&&(x.2==a.2&&true))=(x==a):=by
 rw[Bool.and_true,Bool.eq_iff_iff,Bool.and_eq_true,beq_iff_eq,beq_iff_eq,beq_iff_eq];exact⟨fun e=>Prod.ext e.1 e.2,fun e=>by rw[e];exact⟨rfl,rfl⟩⟩
theorem c3F(a:I2)(e:En):a0f Tryz.prog 187 [.agg (enF e),.c (.own 0 0)] [some (.cells 59 (idF a))] (fun r own'=>r=vcb (e.id==a)∧own'=[some (.cells 59 (idF a))]):=by
 refine a0i Tryz.func187 rfl ttok ftok rfl rfl rfl (Nat.le_of_ble_eq_true rfl) rfl ?_
 conv=>whnf
 refine⟨_,Weak.refl _,?_⟩
 conv=>whnf
 refine⟨[some 0],rfl,rfl,?_,rfl⟩;show vcb _=_;rw[←c2i]
theorem b3f{l:List En}{p:En→Bool}{k:Nat}(hk:k<l.length)(h1:p (l.getD k en0)=true)(h2:∀ j,j<k→p (l.getD j en0)=false):l.findIdx? p=some k:=by
 have hg:∀ j (hj:j<l.length),l.getD j en0=l[j]:=fun j hj=>by rw[List.getD_eq_getElem?_getD,List.getElem?_eq_getElem hj];rfl
 rw[List.findIdx?_eq_some_iff_getElem];refine⟨hk,by rw[←hg k hk];exact h1,fun j hj=>?_⟩
 have:=h2 j hj;rw[hg j (by omega)]at this
 simp[this]
theorem b3g{l:List En}{p:En→Bool}(h:∀ j,j<l.length→p (l.getD j en0)=false):l.findIdx? p=none:=by
 rw[List.findIdx?_eq_none_iff];intro x hx;obtain⟨j,hj,rfl⟩:=List.getElem_of_mem hx;have:=h j hj
 rwa [List.getD_eq_getElem?_getD,List.getElem?_eq_getElem hj]at this
theorem b1y:∀{cs:Ck} {a:I2} {k q:Nat},(∀ j,j<k→(cs.getD j []).findIdx? (fun e=>e.id==a)=none)→k<cs.length→(cs.getD k []).findIdx? (fun e=>e.id==a)=some q→plcC cs a=some (k,q)
 | [],a,k,q,_,h,_=>by simp at h
 | c::cs,a,0,q,_,_,h=>by
  have h:c.findIdx? (fun e=>e.id==a)=some q:=h;rw[a4y,h]
 | c::cs,a,k+1,q,hj,hk,h=>by
  have h0:c.findIdx? (fun e=>e.id==a)=none:=hj 0 (by omega)
  have:=b1y (cs:=cs) (a:=a) (k:=k) (q:=q) (fun j hj2=>by have:=hj (j+1) (by omega);simpa using this) (by simpa using hk) (by simpa using h)
  rw[a4y,h0,this];rfl
theorem a9k:∀{cs:Ck} {a:I2},(∀ j,j<cs.length→(cs.getD j []).findIdx? (fun e=>e.id==a)=none)→plcC cs a=none
 | [],a,_=>rfl
 | c::cs,a,hj=>by
  have h0:c.findIdx? (fun e=>e.id==a)=none:=hj 0 (by simp)
  have:=a9k (cs:=cs) (a:=a) (fun j hj2=>by have:=hj (j+1) (by simp;omega);simpa using this)
  rw[a4y,h0,this];rfl
def plI(cs:Ck)(a:I2)(n:Nat)(st:St):Prop:=∃ k:Nat,n=cs.length-k∧k≤cs.length∧(∀ j,j<k→(cs.getD j []).findIdx? (fun e=>e.id==a)=none) ∧
 st=⟨27,0,[(3,.c (.own 0 0)),(11,chS cs),(12,vci .i64 (cs.length:Int)),(13,vci .i64 (k:Int))],[some (.cells 59 (idF a))]⟩
def plV(o:Option (Nat × Nat)):AV:=match o with
 | some (i,k)=>.tup [vci .i64 (i:Int),vci .i64 (k:Int),vcb true]
 | none=>.tup [vci .i64 0,vci .i64 0,vcb false]
theorem b4o(cs:Ck)(hl:cs.length≤1000000)(hs:sumL cs≤1000000)(a:I2):a0f Tryz.prog 170 [ixA cs,idA a] [] (fun r own'=>own'=[]∧r=plV (plcC cs a)):=by
 refine a0e Tryz.func170 rfl ttok ftok rfl rfl rfl (Nat.le_of_ble_eq_true rfl) ?_
 conv=>whnf
 refine a0B ttok ftok (plI cs a) (a0b [3,11,12,13] [some 1] rfl rfl) ⟨0,rfl,Nat.zero_le _,fun j hj=>by omega,rfl⟩ ?_
 rintro n st ⟨k,rfl,hk,hj,rfl⟩;have e1:=e64 (k:=k) (by omega)
 conv=>whnf
 refine a0d (fun h=>?_) (fun h=>?_)
 ·have h:=of_decide_eq_true h
  have hkl:k<cs.length:=by omega
  have s1:=a2K hkl;have s3:=a2p cs (k+1)
  conv=>whnf
  refine⟨⟨by omega,by omega⟩,?_⟩
  conv=>whnf
  rw[a0k];refine(b7t _ (cs.getD k []) (by omega) [(false,[.own 0 0])] (fun e=>e.id==a) (fun q hq=>?_)).mono ?_
  ·refine a0c [some 0] rfl rfl rfl rfl (c3F a _) ?_
   rintro r own2 ⟨rfl,rfl⟩;exact⟨_,_,rfl,rfl,rfl,rfl⟩
  rintro r own2 (⟨q,hq,h1,h2,rfl,rfl⟩|⟨h1,rfl,rfl⟩)
  ·have hp:=b1y hj hkl (b3f hq h1 h2)
   conv=>whnf
   rw[hp]
   all_goals first | rfl | exact⟨rfl,rfl⟩
  ·conv=>whnf
   rw[e1];refine⟨cs.length-(k+1),_,by omega,a0b [3,11,12,13] [some 0] rfl rfl,k+1,rfl,by omega,fun j h2=>?_,rfl⟩
   rcases Nat.lt_succ_iff_lt_or_eq.1 h2 with h3 | rfl
   ·exact hj j h3
   ·exact b3g h1
 ·have h:=of_decide_eq_false h
  conv=>whnf
  rw[a9k (fun j hj2=>hj j (by omega))]
  all_goals first | rfl | exact⟨rfl,rfl⟩
end Go.Eng
namespace Go.Eng
open Go Go.RowKit Go.Proofs
abbrev erC(k:Int):AV:=.c (.v (.iface 69 (.int .i64 k)))
def fnV(o:Option Nat):AV:=match o with
 | some n=>.tup [vci .i64 (n:Int),vcb true]
 | none=>.tup [vci .i64 0,vcb false]
def fnE(l:List En)(a:I2):Option Nat:=l.findIdx? (fun e=>e.id==a)
def fnI(cs:Ck)(i k:Nat)(n:Nat)(st:St):Prop:=∃ j:Nat,n=i-j∧j≤i ∧
 st=⟨36,0,[(7,vci .i64 ((k+sumL (cs.take j):Nat):Int)),(23,.c (.sl 2 i (chR cs))),(24,vci .i64 (i:Int)),(25,vci .i64 (j:Int))],[]⟩
theorem b5j(cs:Ck)(hl:cs.length≤1000000)(hs:sumL cs≤1000000)(a:I2):a0f Tryz.prog 177 [ixA cs,idA a] [] (fun r own'=>own'=[]∧r=fnV (fnE cs.flatten a)):=by
 have hpf:(plcC cs a).map (fun p=>sumL (cs.take p.1)+p.2)=fnE cs.flatten a:=a4x cs a;refine a0e Tryz.func177 rfl ttok ftok rfl rfl rfl (Nat.le_of_ble_eq_true rfl) ?_
 conv=>whnf
 refine a0a (b4o cs hl hs a) rfl ?_;rintro _ rfl;cases hp:plcC cs a with
 | none =>
  rw[hp]at hpf;rw[←hpf]
  conv=>whnf
  all_goals first | rfl | exact⟨rfl,rfl⟩
 | some p =>
 obtain⟨i,k⟩:=p;rw[hp]at hpf;rw[←hpf];obtain⟨hi,hk⟩:=b0A hp;have s3:=a2p cs (i+1);have s4:=a2K hi
 conv=>whnf
 refine⟨⟨by omega,by omega,by omega,by omega⟩,?_⟩
 refine⟨i,chR cs,by rw[a0k];rfl,fun q hq=>by show chF _=chF (cs.getD (Int.toNat 0+q) []);rw[show Int.toNat 0+q=q from Nat.zero_add q],?_⟩
 conv=>whnf
 refine a0B ttok ftok (fnI cs i k) (a0b [7,23,24,25] [] rfl rfl) ⟨0,rfl,Nat.zero_le _,rfl⟩ ?_;rintro n st ⟨j,rfl,hj,rfl⟩;have e1:=e64 (k:=j) (by omega)
 conv=>whnf
 refine a0d (fun h=>?_) (fun h=>?_)
 ·have h:=of_decide_eq_true h
  have s5:=a2K (show j<cs.length by omega)
  have s6:=a2p cs (j+1)
  conv=>whnf
  refine⟨⟨by omega,by omega⟩,?_⟩
  conv=>whnf
  rw[a0k,e1,show IntKind.i64.wrap (((k+sumL (cs.take j):Nat):Int)+((cs.getD j []).length:Int))=((k+sumL (cs.take (j+1)):Nat):Int)from by rw[a0s (by omega) (by omega)];omega]
  exact⟨i-(j+1),_,by omega,a0b [7,23,24,25] [] rfl rfl,j+1,rfl,by omega,rfl⟩
 ·have h:=of_decide_eq_false h
  obtain rfl:j=i:=by omega
  conv=>whnf
  rw[Nat.add_comm k]
  all_goals first | rfl | exact⟨rfl,rfl⟩
def enV(l:List En)(n:Int):AV:=if 0≤n∧n<l.length then .tup [.agg (enF (l.getD n.toNat en0)),.c (.v .nilIface)]else .tup [.agg (enF en0),erC 3]
def eyI(cs:Ck)(N:Nat)(n:Nat)(st:St):Prop:=∃ j:Nat,n=cs.length-j∧j≤cs.length∧sumL (cs.take j)≤N ∧
 st=⟨43,0,[(1,vci .i64 ((N-sumL (cs.take j):Nat):Int)),(4,.c (.own 0 0)),(19,chS cs),(20,vci .i64 (cs.length:Int)),(21,vci .i64 (j:Int))],[some (.cells 95 (enF en0))]⟩
theorem b5i{cs:Ck}{j q:Nat}(hj:j<cs.length)(hq:q<(cs.getD j []).length):cs.flatten.getD (sumL (cs.take j)+q) en0=(cs.getD j []).getD q en0:=by
 have g:cs=cs.take j++(cs.getD j []::cs.drop (j+1)):=by
  rw[List.getD_eq_getElem?_getD,List.getElem?_eq_getElem hj];exact(List.take_append_drop j cs).symm.trans (by rw[List.drop_eq_getElem_cons hj];rfl)
 have f:cs.flatten=(cs.take j).flatten++(cs.getD j []++(cs.drop (j+1)).flatten):=by
  conv=>lhs;rw[g]
  rw[List.flatten_append,List.flatten_cons]
 rw[f];unfold sumL;rw[List.getD_eq_getElem?_getD,List.getElem?_append_right (Nat.le_add_right _ _),Nat.add_sub_cancel_left,List.getElem?_append_left hq,←List.getD_eq_getElem?_getD]
theorem a5n(cs:Ck)(hl:cs.length≤1000000)(hs:sumL cs≤1000000)(n:Int):a0f Tryz.prog 95 [ixA cs,vci .i64 n] [] (fun r own'=>own'=[]∧r=enV cs.flatten n):=by
 have hfl:cs.flatten.length=sumL cs:=rfl;refine a0e Tryz.func95 rfl ttok ftok rfl rfl rfl (Nat.le_of_ble_eq_true rfl) ?_
 conv=>whnf
 refine a0d (fun h=>?_) (fun h=>?_)
 ·have h:¬(0≤n∧n<cs.flatten.length):=by
   rw[hfl];simp only[a0J,a0O,Bool.or_eq_true,decide_eq_true_eq]at h;omega
  conv=>whnf
  rw[show enV cs.flatten n=.tup [.agg (enF en0),erC 3]from if_neg h]
  all_goals first | rfl | exact⟨rfl,rfl⟩
 have h:0≤n∧n<cs.flatten.length:=by
  rw[hfl];simp only[a0J,a0O,Bool.or_eq_false_iff,decide_eq_false_iff_not]at h;omega
 rw[show enV cs.flatten n=.tup [.agg (enF (cs.flatten.getD n.toNat en0)),.c (.v .nilIface)]from if_pos h];obtain⟨N,rfl⟩:∃ N:Nat,n=(N:Int):=⟨n.toNat,(Int.toNat_of_nonneg h.1).symm⟩;rw[a0k];have hN:N<sumL cs:=by rw[←hfl];omega
 conv=>whnf
 refine a0B ttok ftok (eyI cs N) (a0b [1,4,19,20,21] [some 1] rfl rfl) ⟨0,rfl,Nat.zero_le _,by simp[sumL],rfl⟩ ?_
 rintro m st ⟨j,rfl,hj,hjN,rfl⟩;have e1:=e64 (k:=j) (by omega)
 conv=>whnf
 refine a0d (fun h=>?_) (fun h=>?_)
 ·have h:=of_decide_eq_true h
  have hjl:j<cs.length:=by omega
  have s5:=a2K hjl;have s6:=a2p cs (j+1)
  conv=>whnf
  refine⟨⟨by omega,by omega⟩,?_⟩
  conv=>whnf
  rw[a0k];refine a0d (fun g=>?_) (fun g=>?_)
  ·have g:=of_decide_eq_true g
   have hfg:=b5i hjl (q:=N-sumL (cs.take j)) (by omega)
   rw[show sumL (cs.take j)+(N-sumL (cs.take j))=N by omega]at hfg
   conv=>whnf
   refine⟨⟨by omega,by omega⟩,?_⟩
   conv=>whnf
   rw[a0k,hfg]
   all_goals first | rfl | exact⟨rfl,rfl⟩
  ·have g:=of_decide_eq_false g
   conv=>whnf
   rw[e1,show IntKind.i64.wrap (((N-sumL (cs.take j):Nat):Int)-((cs.getD j []).length:Int))=((N-sumL (cs.take (j+1)):Nat):Int)from by rw[a0s (by omega) (by omega)];omega]
   exact⟨cs.length-(j+1),_,by omega,a0b [1,4,19,20,21] [some 0] rfl rfl,j+1,rfl,by omega,by omega,rfl⟩
 ·have h:=of_decide_eq_false h
  obtain rfl:j=cs.length:=by omega
  rw[List.take_length]at hjN;omega
end Go.Eng
namespace Go.Eng
open Go Go.RowKit Go.Proofs
def atV(l:List En)(k:Int):AV:=if 0≤k∧k<shn l then .tup [vci .i64 (((shp l 0).getD k.toNat 0:Nat):Int),.c (.v .nilIface)]else .tup [vci .i64 0,erC 3]
theorem c1x{cs:Ck}{i:Nat}(hi:i<cs.length){K:Nat}(h1:shnC (cs.take i)≤K)(h2:K<shnC (cs.take i)+shn (cs.getD i [])):(shp cs.flatten 0).getD K 0=(shp (cs.getD i []) (sumL (cs.take i))).getD (K-shnC (cs.take i)) 0:=by
 have g:cs=cs.take i++(cs.getD i []::cs.drop (i+1)):=by
  rw[List.getD_eq_getElem?_getD,List.getElem?_eq_getElem hi];exact(List.take_append_drop i cs).symm.trans (by rw[List.drop_eq_getElem_cons hi];rfl)
 have f:cs.flatten=(cs.take i).flatten++(cs.getD i []++(cs.drop (i+1)).flatten):=by
  conv=>lhs;rw[g]
  rw[List.flatten_append,List.flatten_cons]
 have e1:(shp (cs.take i).flatten 0).length=shnC (cs.take i):=a6e _ _;have e2:=a6e (cs.getD i []) (sumL (cs.take i));rw[f,a5d,a5d,Nat.zero_add];show(shp (cs.take i).flatten 0++(shp (cs.getD i []) (sumL (cs.take i))++_)).getD K 0=_;rw[List.getD_eq_getElem?_getD,List.getElem?_append_right (by omega),e1,List.getElem?_append_left (by omega),←List.getD_eq_getElem?_getD]
def aoI(cs:Ck)(K:Nat)(n:Nat)(st:St):Prop:=∃ i:Nat,n=cs.length-i∧i≤cs.length∧shnC (cs.take i)≤K ∧
 st=⟨60,0,[(1,vci .i64 ((K-shnC (cs.take i):Nat):Int)),(6,vci .i64 (sumL (cs.take i):Int)),(21,chS cs),(22,vci .i64 (cs.length:Int)),(23,vci .i64 (i:Int))],[]⟩
def aiI(c:List En)(A R:Nat)(n:Nat)(st:St):Prop:=∃ j k:Nat,n=c.length-j∧j≤c.length∧k<shn (c.drop j)∧(shp (c.drop j) (A+j)).getD k 0=R ∧
 st=⟨60,0,[(1,vci .i64 (k:Int)),(6,vci .i64 ((A+j:Nat):Int)),(41,enS c),(42,vci .i64 (c.length:Int)),(43,vci .i64 (j:Int))],[]⟩
theorem at_c(cs:Ck)(hl:cs.length≤1000000)(hs:sumL cs≤1000000)(k:Int):a0f Tryz.prog 94 [ixA cs,vci .i64 k] [] (fun r own'=>own'=[]∧r=atV cs.flatten k):=by
 have hfl:shn cs.flatten=shnC cs:=rfl;have hsl:=b0p cs;refine a0e Tryz.func94 rfl ttok ftok rfl rfl rfl (Nat.le_of_ble_eq_true rfl) ?_
 conv=>whnf
 refine a0d (fun h=>?_) (fun h=>?_)
 ·have h:¬(0≤k∧k<shn cs.flatten):=by
   rw[hfl];simp only[a0J,a0O,Bool.or_eq_true,decide_eq_true_eq]at h;omega
  conv=>whnf
  rw[show atV cs.flatten k=.tup [vci .i64 0,erC 3]from if_neg h]
  all_goals first | rfl | exact⟨rfl,rfl⟩
 have h:0≤k∧k<shn cs.flatten:=by
  rw[hfl];simp only[a0J,a0O,Bool.or_eq_false_iff,decide_eq_false_iff_not]at h;omega
 rw[show atV cs.flatten k=.tup [vci .i64 (((shp cs.flatten 0).getD k.toNat 0:Nat):Int),.c (.v .nilIface)]from if_pos h];obtain⟨K,rfl⟩:∃ K:Nat,k=(K:Int):=⟨k.toNat,(Int.toNat_of_nonneg h.1).symm⟩;rw[a0k];have hK:K<shnC cs:=by rw[←hfl];omega
 obtain⟨R,hR⟩:∃ R,(shp cs.flatten 0).getD K 0=R:=⟨_,rfl⟩;rw[hR]
 conv=>whnf
 refine a0B ttok ftok (aoI cs K) (a0b [1,6,21,22,23] [] rfl rfl) ⟨0,rfl,Nat.zero_le _,by simp[shnC,shn],rfl⟩ ?_
 rintro m st ⟨i,rfl,hi,hiK,rfl⟩;have e1:=e64 (k:=i) (by omega)
 conv=>whnf
 refine a0d (fun h=>?_) (fun h=>?_)
 ·have h:=of_decide_eq_true h
  have hil:i<cs.length:=by omega
  have s5:=a2K hil;have s6:=a2p cs (i+1);have s7:=b3T hil
  conv=>whnf
  refine⟨⟨by omega,by omega⟩,?_⟩
  conv=>whnf
  rw[a0k];refine a0d (fun g=>?_) (fun g=>?_)
  ·have g:=of_decide_eq_true g
   conv=>whnf
   rw[e1,show IntKind.i64.wrap (((K-shnC (cs.take i):Nat):Int)-(shn (cs.getD i []):Int))=((K-shnC (cs.take (i+1)):Nat):Int)from by rw[a0s (by omega) (by omega)];omega]
   rw[show IntKind.i64.wrap ((sumL (cs.take i):Int)+((cs.getD i []).length:Int))=(sumL (cs.take (i+1)):Int)from by rw[a0s (by omega) (by omega)];omega]
   exact⟨cs.length-(i+1),_,by omega,a0b [1,6,21,22,23] [] rfl rfl,i+1,rfl,by omega,by omega,rfl⟩
  ·have g:=of_decide_eq_false g
   have hat:=c1x hil hiK (by omega)
   rw[hR]at hat;generalize hc:cs.getD i []=c at *;generalize hA:sumL (cs.take i)=A at *
   conv=>whnf
   refine a0B ttok ftok (aiI c A R) (a0b [1,6,41,42,43] [] rfl rfl) ⟨0,K-shnC (cs.take i),rfl,Nat.zero_le _,by rw[List.drop_zero];omega,by rw[List.drop_zero];exact hat.symm,rfl⟩ ?_
   rintro m st ⟨j,k,rfl,hj,hk,hkR,rfl⟩;have e2:=e64 (k:=j) (by omega)
   conv=>whnf
   refine a0d (fun h=>?_) (fun h=>?_)
   ·have h:=of_decide_eq_true h
    have hjl:j<c.length:=by omega
    have hd:c.drop j=c.getD j en0::c.drop (j+1):=by
     rw[List.drop_eq_getElem_cons hjl,List.getD_eq_getElem?_getD,List.getElem?_eq_getElem hjl];rfl
    rw[hd]at hk hkR;rw[shp]at hkR;have hsc:shn (c.getD j en0::c.drop (j+1))=shn (c.drop (j+1))+if(c.getD j en0).gone=true then 0 else 1:=by
     unfold shn;rw[List.countP_cons];cases (c.getD j en0).gone <;> simp
    rw[hsc]at hk;have hsl2:=b0o (c.drop (j+1));rw[List.length_drop]at hsl2;have hcl:c.length≤1000000:=by omega
    conv=>whnf
    refine⟨⟨by omega,by omega⟩,?_⟩
    conv=>whnf
    rw[a0k];cases hg:(c.getD j en0).gone with
    | true =>
     rw[hg,if_pos rfl]at hk hkR
     conv=>whnf
     rw[e2,e64 (by omega)]
     exact⟨c.length-(j+1),_,by omega,a0b [1,6,41,42,43] [] rfl rfl,j+1,k,rfl,by omega,by omega,hkR,rfl⟩
    | false =>
     rw[hg,if_neg (by decide)]at hk hkR
     conv=>whnf
     by_cases hk0:k=0
     ·subst hk0
      have hkR:A+j=R:=hkR
      conv=>whnf
      rw[hkR]
      all_goals first | rfl | exact⟨rfl,rfl⟩
     ·rw[show(((k:Nat):Int)==0)=false from beq_eq_false_iff_ne.2 (by omega)]
      obtain⟨k,rfl⟩:∃ q,k=q+1:=⟨k-1,by omega⟩
      conv=>whnf
      rw[e2,e64 (by omega),show IntKind.i64.wrap (((k+1:Nat):Int)-1)=(k:Int)from by rw[a0s (by omega) (by omega)];omega]
      exact⟨c.length-(j+1),_,by omega,a0b [1,6,41,42,43] [] rfl rfl,j+1,k,rfl,by omega,by omega,hkR,rfl⟩
   ·have h:=of_decide_eq_false h
    obtain rfl:j=c.length:=by omega
    rw[List.drop_length]at hk;simp[shn]at hk
 ·have h:=of_decide_eq_false h
  obtain rfl:i=cs.length:=by omega
  rw[List.take_length]at hiK;omega
end Go.Eng
namespace Go.Eng
open Go Go.RowKit Go.Proofs
theorem c0i(l:List (List En))(hl:l.length≤1000000000):a0f Tryz.prog 190 [.c (.sl 2 l.length fun k=>chF (l.getD k []))] []
  (fun r own'=>r=.c (.row 0)∧own'=[some (.row 137 2 l.length fun k=>chF (l.getD k []))]):=by
 refine a0i Tryz.func190 rfl ttok ftok rfl rfl rfl (Nat.le_of_ble_eq_true rfl) rfl ?_
 conv=>whnf
 intro b hb;cases b with
 | true =>
  have h0:=hb rfl;obtain rfl:l=[]:=List.eq_nil_of_length_eq_zero h0
  conv=>whnf
  refine⟨_,a0M 2 137 2 (fun k=>chF (([]:List (List En)).getD k [])) rfl,?_⟩
  conv=>whnf
  exact⟨[some 0],rfl,rfl,rfl,rfl⟩
 | false =>
  clear hb
  conv=>whnf
  refine⟨⟨by omega,by show(0+l.length)*32≤_;omega⟩,?_⟩
  conv=>whnf
  refine⟨l.length,fun k=>chF (l.getD k []),by omega,fun k hk=>by omega,fun k hk=>by rw[Nat.zero_add],?_⟩
  conv=>whnf
  refine⟨_,Weak.refl _,?_⟩
  conv=>whnf
  exact⟨[some 1],rfl,rfl,rfl,rfl⟩
def repL(cs:Ck)(i:Nat)(m:Ck):Ck:=cs.take i++m++cs.drop (i+1)
theorem a4s{cs:Ck}{i:Nat}(m:Ck)(hi:i<cs.length):(repL cs i m).length=cs.length-1+m.length:=by
 unfold repL;rw[List.length_append,List.length_append,List.length_take,List.length_drop];omega
theorem b6J{cs:Ck}{i:Nat}(m:Ck)(hi:i<cs.length)(q:Nat):(repL cs i m).getD q []=if q<i then cs.getD q []else if q<i+m.length then m.getD (q-i) []else cs.getD (q+1-m.length) []:=by
 unfold repL;have htl:(cs.take i).length=i:=by rw[List.length_take];omega
 split
 ·rename_i h
  rw[List.append_assoc,List.getD_eq_getElem?_getD,List.getElem?_append_left (by omega),←List.getD_eq_getElem?_getD,a0Q _ _ _ _ h]
 ·rename_i h
  rw[List.append_assoc,List.getD_eq_getElem?_getD,List.getElem?_append_right (by omega),htl]
  split
  ·rename_i h2
   rw[List.getElem?_append_left (by omega),←List.getD_eq_getElem?_getD]
  ·rename_i h2
   rw[List.getElem?_append_right (by omega),←List.getD_eq_getElem?_getD,a1j]
   congr 1
   omega
theorem c3D(cs:Ck)(i:Nat)(hi:i<cs.length)(hl:cs.length≤1000000)(m:Ck)(hm:1≤m.length)(hm2:m.length≤2):a0f Tryz.prog 189 [.c (.row 0),vci .i64 i,vci .i64 ((i+1:Nat):Int),chS m] [some (.row 137 2 cs.length (chR cs))]
  (fun r own'=>r=.c (.row 2)∧own'=[none,none,some (.row 137 2 (repL cs i m).length (chR (repL cs i m)))]):=by
 have hget:=b6J m hi;have hlen:=a4s m hi;have hlt:i+(m.length+(cs.length-(i+1)))=(repL cs i m).length:=by omega
 generalize hl':repL cs i m=L at hget hlen hlt;refine a1B 0 rfl (fun h0=>by omega) (fun c hc hc2=>?_)
 show a0f Tryz.prog 189 [.c (.view 1 2 0 cs.length c),vci .i64 i,vci .i64 ((i+1:Nat):Int),chS m] [none,some (.arr 137 2 c cs.length (chR cs))] _;refine a0i Tryz.func189 rfl ttok ftok rfl rfl rfl (Nat.le_of_ble_eq_true rfl) rfl ?_
 conv=>whnf
 refine⟨⟨by omega,by omega,by omega,by omega⟩,?_⟩
 conv=>whnf
 rw[show(((i:Nat):Int)==((i+1:Nat):Int))=false from beq_eq_false_iff_ne.2 (by omega)]
 conv=>whnf
 refine a0d (fun h=>?_) (fun h=>?_)
 ·have e:((i+1:Nat):Int)=cs.length:=by simpa using h
  have e:i+1=cs.length:=by omega
  conv=>whnf
  refine⟨⟨by omega,by omega,by omega,by omega⟩,?_⟩
  conv=>whnf
  refine⟨trivial,⟨by omega,by omega⟩,fun h1=>?_,fun h1=>?_⟩
  ·refine⟨L.length,chR L,fun q hq=>?_,?_⟩
   ·rcases Nat.lt_or_ge q i with h2 | h2
    ·refine .inr ⟨.inl (by omega),by omega,?_⟩
     show chF (L.getD q [])=chF (cs.getD q []);rw[hget,if_pos h2]
    ·refine .inl ⟨by omega,by omega,?_⟩
     show chF (L.getD q [])=chF (m.getD _ []);rw[hget,if_neg (by omega),if_pos (by omega)]
     congr 2
     omega
   conv=>whnf
   rw[decide_eq_false (by omega)]
   conv=>whnf
   refine⟨_,a0y 8 1 (n:=L.length) rfl rfl (by omega) (by omega) (by omega) (by omega),?_⟩
   conv=>whnf
   exact⟨[none,none,some 2],rfl,rfl,rfl,rfl⟩
  ·refine⟨⟨by omega,by show(((i:Int).toNat-Int.toNat 0)+m.length)*32≤_;omega⟩,chR L,fun q hq=>?_,fun q hq=>?_,fun cap' hcap=>?_⟩
   ·show chF (L.getD q [])=chF (cs.getD _ [])
    rw[hget,if_pos (by omega)]
    congr 2
    omega
   ·show chF (L.getD _ [])=chF (m.getD q [])
    rw[hget,if_neg (by omega),if_pos (by omega)]
    congr 2
    omega
   conv=>whnf
   rw[decide_eq_false (by omega)]
   conv=>whnf
   refine⟨_,a0y 8 2 (n:=L.length) rfl rfl rfl (by omega) (by omega) rfl,?_⟩
   conv=>whnf
   exact⟨[none,none,some 3],rfl,rfl,rfl,rfl⟩
 have hne:i+1<cs.length:=by
  have:i+1≠cs.length:=fun e=>by rw[e]at h;simp at h
  omega
 clear h
 conv=>whnf
 refine a0I 12 mixed (by kernel_rfl) ttok ftok ?_
 conv=>whnf
 refine⟨⟨by omega,by omega,by omega,by omega⟩,?_⟩
 conv=>whnf
 refine⟨⟨by omega,by omega,by omega,by omega⟩,?_⟩
 conv=>whnf
 rw[show IntKind.i64.wrap (IntKind.i64.wrap ((((i:Int).toNat-Int.toNat 0:Nat):Int)+(m.length:Int))+(((cs.length:Int).toNat-((i+1:Nat):Int).toNat:Nat):Int))=(L.length:Int)from by rw[a0s (x:=((((i:Int).toNat-Int.toNat 0:Nat):Int)+(m.length:Int))) (by omega) (by omega),a0s (by omega) (by omega)];omega]
 have w3:IntKind.i64.wrap ((i:Int)+(m.length:Int))=((i+m.length:Nat):Int):=by rw[a0s (by omega) (by omega)];omega
 refine a0d (fun h=>?_) (fun h=>?_)
 ·have h:=of_decide_eq_true h
  conv=>whnf
  refine⟨⟨by omega,by omega,by omega,by omega⟩,?_⟩
  conv=>whnf
  rw[show IntKind.i64.wrap ((L.length:Int)-(i:Int))=((L.length-i:Nat):Int)from by rw[a0s (by omega) (by omega)];omega]
  refine⟨by omega,⟨by omega,by omega,by omega,by show _*(((32:Nat)):Int)≤_;omega⟩,fun q=>if q<i then chF (cs.getD q [])else[.v (.slice none 0 0),vi 0],fun q hq=>?_,fun q hq=>?_,fun cap' hcap=>?_⟩
  ·show(if q<i then chF (cs.getD q [])else[.v (.slice none 0 0),vi 0])=chF (cs.getD _ [])
   rw[if_pos (by omega)]
   congr 2
   omega
  ·dsimp only
   rw[if_neg (by omega)]
   rfl
  conv=>whnf
  refine⟨⟨by omega,by omega,by omega,by omega⟩,?_⟩
  conv=>whnf
  refine⟨trivial,by omega,L.length,fun q=>if q<i then chF (cs.getD q [])else if q<i+m.length then chF (m.getD (q-i) [])else[.v (.slice none 0 0),vi 0],fun q hq=>?_,?_⟩
  ·rcases Nat.lt_or_ge q i with h2 | h2
   ·exact .inr ⟨.inl (by omega),by omega,by dsimp only;rw[if_pos h2,if_pos h2]⟩
   ·rcases Nat.lt_or_ge q (i+m.length)with h3 | h3
    ·refine .inl ⟨by omega,by omega,?_⟩
     dsimp only
     rw[if_neg (by omega),if_pos h3]
     show _=chF (m.getD _ [])
     congr 2
     omega
    ·exact .inr ⟨.inr (by omega),by omega,by dsimp only;rw[if_neg (by omega),if_neg (by omega),if_neg (by omega)]⟩
  conv=>whnf
  refine a0I 9 mixed (by kernel_rfl) ttok ftok ?_
  conv=>whnf
  rw[w3];refine⟨⟨by omega,by omega,by omega,by omega⟩,?_⟩
  conv=>whnf
  refine⟨⟨by omega,by omega,by omega,by omega⟩,?_⟩
  conv=>whnf
  refine⟨by omega,by omega,L.length,chR L,fun q hq=>?_,?_⟩
  ·rcases Nat.lt_or_ge q i with h2 | h2
   ·refine .inr ⟨.inl (by omega),by omega,?_⟩
    show chF (L.getD q [])=if q<i then _ else _
    rw[hget,if_pos h2,if_pos h2]
   ·rcases Nat.lt_or_ge q (i+m.length)with h3 | h3
    ·refine .inr ⟨.inl (by omega),by omega,?_⟩
     show chF (L.getD q [])=if q<i then _ else(if q<i+m.length then _ else _)
     rw[hget,if_neg (show ¬ q<i by omega),if_neg (show ¬ q<i by omega),if_pos h3,if_pos h3]
    ·refine .inl ⟨by omega,by omega,?_⟩
     show chF (L.getD q [])=chF (cs.getD _ []);rw[hget,if_neg (by omega),if_neg (by omega)]
     congr 2
     omega
  conv=>whnf
  refine⟨_,a0y 8 2 (n:=L.length) rfl rfl (by omega) (by omega) (by omega) (by omega),?_⟩
  conv=>whnf
  exact⟨[none,none,some 3],rfl,rfl,rfl,rfl⟩
 have h:=of_decide_eq_false h
 conv=>whnf
 refine⟨⟨by omega,by omega,by omega,by omega⟩,?_⟩
 conv=>whnf
 rw[w3];refine a0d (fun g=>?_) (fun g=>?_)
 ·have g:=of_decide_eq_true g
  have hm1:m.length=1:=by omega
  conv=>whnf
  refine⟨⟨by omega,by omega,by omega,by omega⟩,?_⟩
  conv=>whnf
  refine⟨trivial,by omega,L.length,chR L,fun q hq=>?_,?_⟩
  ·rcases Nat.lt_trichotomy q i with h2 | h2 | h2
   ·refine .inr ⟨.inl (by omega),by omega,?_⟩
    show chF (L.getD q [])=chF (cs.getD q []);rw[hget,if_pos h2]
   ·refine .inl ⟨by omega,by omega,?_⟩
    show chF (L.getD q [])=chF (m.getD _ []);rw[hget,if_neg (by omega),if_pos (by omega)]
    congr 2
    omega
   ·refine .inr ⟨.inr (by omega),by omega,?_⟩
    show chF (L.getD q [])=chF (cs.getD q []);rw[hget,if_neg (by omega),if_neg (by omega)]
    congr 2
    omega
  conv=>whnf
  refine a0I 9 mixed (by kernel_rfl) ttok ftok ?_
  conv=>whnf
  rw[w3];refine⟨⟨by omega,by omega,by omega,by omega⟩,?_⟩
  conv=>whnf
  refine⟨⟨by omega,by omega,by omega,by omega⟩,?_⟩
  conv=>whnf
  refine⟨by omega,by omega,L.length,chR L,fun q hq=>?_,?_⟩
  ·rcases Nat.lt_or_ge q (i+1)with h2 | h2
   ·exact .inr ⟨.inl (by omega),by omega,rfl⟩
   ·refine .inl ⟨by omega,by omega,?_⟩
    show chF (L.getD q [])=chF (L.getD _ [])
    congr 2
    omega
  conv=>whnf
  refine⟨⟨by omega,by omega,by omega,by omega⟩,?_⟩
  conv=>whnf
  refine⟨by omega,L.length,chR L,fun q hq=>.inr ⟨.inl (by omega),by omega,rfl⟩,?_⟩
  conv=>whnf
  refine⟨_,a0y 8 1 (n:=L.length) rfl rfl (by omega) (by omega) (by omega) (by omega),?_⟩
  conv=>whnf
  exact⟨[none,none,some 2],rfl,rfl,rfl,rfl⟩
 have g:=of_decide_eq_false g
 conv=>whnf
 rw[w3];refine⟨⟨by omega,by omega,by omega,by omega⟩,?_⟩
 conv=>whnf
 refine a2m (t:=70) (r:=4) (ti:=c4H) Tryz.func205 (by kernel_rfl) rfl (by kernel_rfl) (by kernel_rfl) c5q Tryz.underlying70 (a8I rfl (by omega) (by omega) (by omega) (by decide)) ?_
 conv=>whnf
 refine a0I 9 mixed (by kernel_rfl) ttok ftok ?_
 conv=>whnf
 rw[w3];refine⟨⟨by omega,by omega,by omega,by omega⟩,?_⟩
 conv=>whnf
 refine⟨⟨by omega,by omega,by omega,by omega⟩,?_⟩
 conv=>whnf
 refine⟨by omega,by omega,L.length,fun q=>if q<i+m.length then chF (cs.getD q [])else chF (L.getD q []),fun q hq=>?_,?_⟩
 ·rcases Nat.lt_or_ge q (i+m.length)with h2 | h2
  ·refine .inr ⟨.inl (by omega),by omega,?_⟩
   show(if q<i+m.length then _ else _)=_
   rw[if_pos h2]
  ·refine .inl ⟨by omega,by omega,?_⟩
   show(if q<i+m.length then _ else chF (L.getD q []))=chF (cs.getD _ [])
   rw[if_neg (by omega),hget,if_neg (by omega),if_neg (by omega)]
   congr 2
   omega
 conv=>whnf
 refine⟨⟨by omega,by omega,by omega,by omega⟩,?_⟩
 conv=>whnf
 refine⟨trivial,by omega,L.length,chR L,fun q hq=>?_,?_⟩
 ·rcases Nat.lt_or_ge q i with h2 | h2
  ·refine .inr ⟨.inl (by omega),by omega,?_⟩
   show chF (L.getD q [])=if q<i+m.length then chF (cs.getD q [])else _
   rw[if_pos (show q<i+m.length by omega),hget,if_pos h2]
  ·rcases Nat.lt_or_ge q (i+m.length)with h3 | h3
   ·refine .inl ⟨by omega,by omega,?_⟩
    show chF (L.getD q [])=chF (m.getD _ []);rw[hget,if_neg (show ¬ q<i by omega),if_pos h3]
    congr 2
    omega
   ·refine .inr ⟨.inr (by omega),by omega,?_⟩
    show chF (L.getD q [])=if q<i+m.length then _ else chF (L.getD q [])
    rw[if_neg (show ¬ q<i+m.length by omega)]
 conv=>whnf
 refine⟨_,a0y 8 1 (n:=L.length) rfl rfl (by omega) (by omega) (by omega) (by omega),?_⟩
 conv=>whnf
 exact⟨[none,none,some 2],rfl,rfl,rfl,rfl⟩
end Go.Eng
