/- A part of the proof: what the functions of the program come to, told by a small reckoner of states. -/
import Derived.Test.YteglopjljejjkacGA23TA28
import Derived.Test.YteglopjljejjkacProg
import Derived.KernelRfl
import Derived.Lib.Walk
import Derived.Shelf.SlSortCmp.WholeK
import Derived.WalkKit
import Derived.LoopN
import Derived.Ground.NamesProg
import Derived.Ground.SlsfProg
import Derived.Shelf.SlLaysF0
import Derived.Shelf.Lays
namespace Go.Eng
open Go Go.RowKit Go.Proofs
instance : HasGl Try.prog := ⟨fun _ => True, fun _ _ => trivial⟩
def ti1 : TI := ⟨1, false, (TypeDesc.func #[] #[] false), Value.nilFunc, 8, false, false, false⟩
theorem tf1 : TF Try.prog 1 ti1 := ⟨Try.sizeOf1, Try.isAgg1, Try.underlying1, Try.zeroValue1, by kernel_rfl, by kernel_rfl, by kernel_rfl, by kernel_rfl⟩
def ti2 : TI := ⟨1, false, (TypeDesc.int IntKind.i64), (Value.int IntKind.i64 0), 8, false, false, true⟩
theorem tf2 : TF Try.prog 2 ti2 := ⟨Try.sizeOf2, Try.isAgg2, Try.underlying2, Try.zeroValue2, by kernel_rfl, by kernel_rfl, by kernel_rfl, by kernel_rfl⟩
def ti3 : TI := ⟨1, false, (TypeDesc.int IntKind.i64), (Value.int IntKind.i64 0), 8, false, false, true⟩
theorem tf3 : TF Try.prog 3 ti3 := ⟨Try.sizeOf3, Try.isAgg3, Try.underlying3, Try.zeroValue3, by kernel_rfl, by kernel_rfl, by kernel_rfl, by kernel_rfl⟩
def ti4 : TI := ⟨1, false, TypeDesc.bool, (Value.bool false), 1, false, false, true⟩
theorem tf4 : TF Try.prog 4 ti4 := ⟨Try.sizeOf4, Try.isAgg4, Try.underlying4, Try.zeroValue4, by kernel_rfl, by kernel_rfl, by kernel_rfl, by kernel_rfl⟩
def ti5 : TI := ⟨1, false, (TypeDesc.int IntKind.u8), (Value.int IntKind.u8 0), 1, false, false, true⟩
theorem tf5 : TF Try.prog 5 ti5 := ⟨Try.sizeOf5, Try.isAgg5, Try.underlying5, Try.zeroValue5, by kernel_rfl, by kernel_rfl, by kernel_rfl, by kernel_rfl⟩
def ti6 : TI := ⟨1, false, (TypeDesc.int IntKind.u8), (Value.int IntKind.u8 0), 1, false, false, true⟩
theorem tf6 : TF Try.prog 6 ti6 := ⟨Try.sizeOf6, Try.isAgg6, Try.underlying6, Try.zeroValue6, by kernel_rfl, by kernel_rfl, by kernel_rfl, by kernel_rfl⟩
def ti9 : TI := ⟨1, false, TypeDesc.string, (Value.string { data := #[] }), 16, false, false, true⟩
theorem tf9 : TF Try.prog 9 ti9 := ⟨Try.sizeOf9, Try.isAgg9, Try.underlying9, Try.zeroValue9, by kernel_rfl, by kernel_rfl, by kernel_rfl, by kernel_rfl⟩
def ti10 : TI := ⟨1, false, TypeDesc.string, (Value.string { data := #[] }), 16, false, false, true⟩
theorem tf10 : TF Try.prog 10 ti10 := ⟨Try.sizeOf10, Try.isAgg10, Try.underlying10, Try.zeroValue10, by kernel_rfl, by kernel_rfl, by kernel_rfl, by kernel_rfl⟩
def ti11 : TI := ⟨1, false, TypeDesc.string, (Value.string { data := #[] }), 16, false, false, true⟩
theorem tf11 : TF Try.prog 11 ti11 := ⟨Try.sizeOf11, Try.isAgg11, Try.underlying11, Try.zeroValue11, by kernel_rfl, by kernel_rfl, by kernel_rfl, by kernel_rfl⟩
def ti12 : TI := ⟨1, false, (TypeDesc.int IntKind.u64), (Value.int IntKind.u64 0), 8, false, false, true⟩
theorem tf12 : TF Try.prog 12 ti12 := ⟨Try.sizeOf12, Try.isAgg12, Try.underlying12, Try.zeroValue12, by kernel_rfl, by kernel_rfl, by kernel_rfl, by kernel_rfl⟩
def ti15 : TI := ⟨1, false, (TypeDesc.pointer 196), (Value.pointer none), 8, false, false, true⟩
theorem tf15 : TF Try.prog 15 ti15 := ⟨Try.sizeOf15, Try.isAgg15, Try.underlying15, Try.zeroValue15, by kernel_rfl, by kernel_rfl, by kernel_rfl, by kernel_rfl⟩
def ti16 : TI := ⟨1, false, (TypeDesc.pointer 199), (Value.pointer none), 8, false, false, true⟩
theorem tf16 : TF Try.prog 16 ti16 := ⟨Try.sizeOf16, Try.isAgg16, Try.underlying16, Try.zeroValue16, by kernel_rfl, by kernel_rfl, by kernel_rfl, by kernel_rfl⟩
def ti17 : TI := ⟨1, false, (TypeDesc.pointer 207), (Value.pointer none), 8, false, false, true⟩
theorem tf17 : TF Try.prog 17 ti17 := ⟨Try.sizeOf17, Try.isAgg17, Try.underlying17, Try.zeroValue17, by kernel_rfl, by kernel_rfl, by kernel_rfl, by kernel_rfl⟩
def ti20 : TI := ⟨1, false, (TypeDesc.interface #[]), Value.nilIface, 16, false, false, true⟩
theorem tf20 : TF Try.prog 20 ti20 := ⟨Try.sizeOf20, Try.isAgg20, Try.underlying20, Try.zeroValue20, by kernel_rfl, by kernel_rfl, by kernel_rfl, by kernel_rfl⟩
def ti21 : TI := ⟨1, false, (TypeDesc.int IntKind.i32), (Value.int IntKind.i32 0), 4, false, false, true⟩
theorem tf21 : TF Try.prog 21 ti21 := ⟨Try.sizeOf21, Try.isAgg21, Try.underlying21, Try.zeroValue21, by kernel_rfl, by kernel_rfl, by kernel_rfl, by kernel_rfl⟩
def ti22 : TI := ⟨1, false, (TypeDesc.slice 40), (Value.slice none 0 0), 24, false, false, false⟩
theorem tf22 : TF Try.prog 22 ti22 := ⟨Try.sizeOf22, Try.isAgg22, Try.underlying22, Try.zeroValue22, by kernel_rfl, by kernel_rfl, by kernel_rfl, by kernel_rfl⟩
def ti23 : TI := ⟨1, false, (TypeDesc.slice 3), (Value.slice none 0 0), 24, false, false, false⟩
theorem tf23 : TF Try.prog 23 ti23 := ⟨Try.sizeOf23, Try.isAgg23, Try.underlying23, Try.zeroValue23, by kernel_rfl, by kernel_rfl, by kernel_rfl, by kernel_rfl⟩
def ti24 : TI := ⟨1, false, (TypeDesc.func #[] #[4] false), Value.nilFunc, 8, false, false, false⟩
theorem tf24 : TF Try.prog 24 ti24 := ⟨Try.sizeOf24, Try.isAgg24, Try.underlying24, Try.zeroValue24, by kernel_rfl, by kernel_rfl, by kernel_rfl, by kernel_rfl⟩
def ti25 : TI := ⟨1, false, (TypeDesc.func #[22] #[22] false), Value.nilFunc, 8, false, false, false⟩
theorem tf25 : TF Try.prog 25 ti25 := ⟨Try.sizeOf25, Try.isAgg25, Try.underlying25, Try.zeroValue25, by kernel_rfl, by kernel_rfl, by kernel_rfl, by kernel_rfl⟩
def ti26 : TI := ⟨1, false, (TypeDesc.slice 100), (Value.slice none 0 0), 24, false, false, false⟩
theorem tf26 : TF Try.prog 26 ti26 := ⟨Try.sizeOf26, Try.isAgg26, Try.underlying26, Try.zeroValue26, by kernel_rfl, by kernel_rfl, by kernel_rfl, by kernel_rfl⟩
def ti27 : TI := ⟨3, true, (TypeDesc.struct #[{ name := "l", type := 26, offset := 0, embedded := false, tag := "", pkgPath := "surcingle/index", byteOffset := 0 }, { name := "len", type := 3, offset := 1, embedded := false, tag := "", pkgPath := "surcingle/index", byteOffset := 24 }, { name := "shown", type := 3, offset := 2, embedded := false, tag := "", pkgPath := "surcingle/index", byteOffset := 32 }]), (Value.agg #[Value.slice none 0 0, Value.int IntKind.i64 0, Value.int IntKind.i64 0]), 40, false, false, false⟩
theorem tf27 : TF Try.prog 27 ti27 := ⟨Try.sizeOf27, Try.isAgg27, Try.underlying27, Try.zeroValue27, by kernel_rfl, by kernel_rfl, by kernel_rfl, by kernel_rfl⟩
def ti28 : TI := ⟨3, true, (TypeDesc.struct #[{ name := "l", type := 26, offset := 0, embedded := false, tag := "", pkgPath := "surcingle/index", byteOffset := 0 }, { name := "len", type := 3, offset := 1, embedded := false, tag := "", pkgPath := "surcingle/index", byteOffset := 24 }, { name := "shown", type := 3, offset := 2, embedded := false, tag := "", pkgPath := "surcingle/index", byteOffset := 32 }]), (Value.agg #[Value.slice none 0 0, Value.int IntKind.i64 0, Value.int IntKind.i64 0]), 40, false, false, false⟩
theorem tf28 : TF Try.prog 28 ti28 := ⟨Try.sizeOf28, Try.isAgg28, Try.underlying28, Try.zeroValue28, by kernel_rfl, by kernel_rfl, by kernel_rfl, by kernel_rfl⟩
def ti29 : TI := ⟨1, false, (TypeDesc.slice 96), (Value.slice none 0 0), 24, false, false, false⟩
theorem tf29 : TF Try.prog 29 ti29 := ⟨Try.sizeOf29, Try.isAgg29, Try.underlying29, Try.zeroValue29, by kernel_rfl, by kernel_rfl, by kernel_rfl, by kernel_rfl⟩
def ti30 : TI := ⟨4, true, (TypeDesc.struct #[{ name := "x", type := 28, offset := 0, embedded := false, tag := "", pkgPath := "surcingle/list", byteOffset := 0 }, { name := "l", type := 29, offset := 3, embedded := false, tag := "", pkgPath := "surcingle/list", byteOffset := 40 }]), (Value.agg #[Value.slice none 0 0, Value.int IntKind.i64 0, Value.int IntKind.i64 0, Value.slice none 0 0]), 64, false, false, false⟩
theorem tf30 : TF Try.prog 30 ti30 := ⟨Try.sizeOf30, Try.isAgg30, Try.underlying30, Try.zeroValue30, by kernel_rfl, by kernel_rfl, by kernel_rfl, by kernel_rfl⟩
def ti31 : TI := ⟨4, true, (TypeDesc.struct #[{ name := "x", type := 28, offset := 0, embedded := false, tag := "", pkgPath := "surcingle/list", byteOffset := 0 }, { name := "l", type := 29, offset := 3, embedded := false, tag := "", pkgPath := "surcingle/list", byteOffset := 40 }]), (Value.agg #[Value.slice none 0 0, Value.int IntKind.i64 0, Value.int IntKind.i64 0, Value.slice none 0 0]), 64, false, false, false⟩
theorem tf31 : TF Try.prog 31 ti31 := ⟨Try.sizeOf31, Try.isAgg31, Try.underlying31, Try.zeroValue31, by kernel_rfl, by kernel_rfl, by kernel_rfl, by kernel_rfl⟩
def ti32 : TI := ⟨1, false, (TypeDesc.interface #[("Error", 47)]), Value.nilIface, 16, false, true, true⟩
theorem tf32 : TF Try.prog 32 ti32 := ⟨Try.sizeOf32, Try.isAgg32, Try.underlying32, Try.zeroValue32, by kernel_rfl, by kernel_rfl, by kernel_rfl, by kernel_rfl⟩
def ti33 : TI := ⟨1, false, (TypeDesc.interface #[("Error", 47)]), Value.nilIface, 16, false, true, true⟩
theorem tf33 : TF Try.prog 33 ti33 := ⟨Try.sizeOf33, Try.isAgg33, Try.underlying33, Try.zeroValue33, by kernel_rfl, by kernel_rfl, by kernel_rfl, by kernel_rfl⟩
def ti35 : TI := ⟨1, false, (TypeDesc.func #[40, 4] #[31, 33] false), Value.nilFunc, 8, false, false, false⟩
theorem tf35 : TF Try.prog 35 ti35 := ⟨Try.sizeOf35, Try.isAgg35, Try.underlying35, Try.zeroValue35, by kernel_rfl, by kernel_rfl, by kernel_rfl, by kernel_rfl⟩
def ti36 : TI := ⟨1, false, (TypeDesc.int IntKind.u32), (Value.int IntKind.u32 0), 4, false, false, true⟩
theorem tf36 : TF Try.prog 36 ti36 := ⟨Try.sizeOf36, Try.isAgg36, Try.underlying36, Try.zeroValue36, by kernel_rfl, by kernel_rfl, by kernel_rfl, by kernel_rfl⟩
def ti37 : TI := ⟨2, true, (TypeDesc.struct #[{ name := "Client", type := 36, offset := 0, embedded := false, tag := "", pkgPath := "", byteOffset := 0 }, { name := "Clock", type := 36, offset := 1, embedded := false, tag := "", pkgPath := "", byteOffset := 4 }]), (Value.agg #[Value.int IntKind.u32 0, Value.int IntKind.u32 0]), 8, false, false, true⟩
theorem tf37 : TF Try.prog 37 ti37 := ⟨Try.sizeOf37, Try.isAgg37, Try.underlying37, Try.zeroValue37, by kernel_rfl, by kernel_rfl, by kernel_rfl, by kernel_rfl⟩
def ti38 : TI := ⟨2, true, (TypeDesc.struct #[{ name := "Client", type := 36, offset := 0, embedded := false, tag := "", pkgPath := "", byteOffset := 0 }, { name := "Clock", type := 36, offset := 1, embedded := false, tag := "", pkgPath := "", byteOffset := 4 }]), (Value.agg #[Value.int IntKind.u32 0, Value.int IntKind.u32 0]), 8, false, false, true⟩
theorem tf38 : TF Try.prog 38 ti38 := ⟨Try.sizeOf38, Try.isAgg38, Try.underlying38, Try.zeroValue38, by kernel_rfl, by kernel_rfl, by kernel_rfl, by kernel_rfl⟩
def ti39 : TI := ⟨7, true, (TypeDesc.struct #[{ name := "Id", type := 38, offset := 0, embedded := false, tag := "", pkgPath := "", byteOffset := 0 }, { name := "Left", type := 38, offset := 2, embedded := false, tag := "", pkgPath := "", byteOffset := 8 }, { name := "Right", type := 38, offset := 4, embedded := false, tag := "", pkgPath := "", byteOffset := 16 }, { name := "Ch", type := 21, offset := 6, embedded := false, tag := "", pkgPath := "", byteOffset := 24 }]), (Value.agg #[Value.int IntKind.u32 0, Value.int IntKind.u32 0, Value.int IntKind.u32 0, Value.int IntKind.u32 0, Value.int IntKind.u32 0, Value.int IntKind.u32 0, Value.int IntKind.i32 0]), 28, false, false, true⟩
theorem tf39 : TF Try.prog 39 ti39 := ⟨Try.sizeOf39, Try.isAgg39, Try.underlying39, Try.zeroValue39, by kernel_rfl, by kernel_rfl, by kernel_rfl, by kernel_rfl⟩
def ti40 : TI := ⟨7, true, (TypeDesc.struct #[{ name := "Id", type := 38, offset := 0, embedded := false, tag := "", pkgPath := "", byteOffset := 0 }, { name := "Left", type := 38, offset := 2, embedded := false, tag := "", pkgPath := "", byteOffset := 8 }, { name := "Right", type := 38, offset := 4, embedded := false, tag := "", pkgPath := "", byteOffset := 16 }, { name := "Ch", type := 21, offset := 6, embedded := false, tag := "", pkgPath := "", byteOffset := 24 }]), (Value.agg #[Value.int IntKind.u32 0, Value.int IntKind.u32 0, Value.int IntKind.u32 0, Value.int IntKind.u32 0, Value.int IntKind.u32 0, Value.int IntKind.u32 0, Value.int IntKind.i32 0]), 28, false, false, true⟩
theorem tf40 : TF Try.prog 40 ti40 := ⟨Try.sizeOf40, Try.isAgg40, Try.underlying40, Try.zeroValue40, by kernel_rfl, by kernel_rfl, by kernel_rfl, by kernel_rfl⟩
def ti41 : TI := ⟨1, false, (TypeDesc.func #[38] #[31, 33] false), Value.nilFunc, 8, false, false, false⟩
theorem tf41 : TF Try.prog 41 ti41 := ⟨Try.sizeOf41, Try.isAgg41, Try.underlying41, Try.zeroValue41, by kernel_rfl, by kernel_rfl, by kernel_rfl, by kernel_rfl⟩
def ti42 : TI := ⟨1, false, (TypeDesc.func #[3, 3] #[3] false), Value.nilFunc, 8, false, false, false⟩
theorem tf42 : TF Try.prog 42 ti42 := ⟨Try.sizeOf42, Try.isAgg42, Try.underlying42, Try.zeroValue42, by kernel_rfl, by kernel_rfl, by kernel_rfl, by kernel_rfl⟩
def ti43 : TI := ⟨1, false, (TypeDesc.func #[44, 44] #[4] false), Value.nilFunc, 8, false, false, false⟩
theorem tf43 : TF Try.prog 43 ti43 := ⟨Try.sizeOf43, Try.isAgg43, Try.underlying43, Try.zeroValue43, by kernel_rfl, by kernel_rfl, by kernel_rfl, by kernel_rfl⟩
def ti44 : TI := ⟨1, false, (TypeDesc.slice 93), (Value.slice none 0 0), 24, false, false, false⟩
theorem tf44 : TF Try.prog 44 ti44 := ⟨Try.sizeOf44, Try.isAgg44, Try.underlying44, Try.zeroValue44, by kernel_rfl, by kernel_rfl, by kernel_rfl, by kernel_rfl⟩
def ti45 : TI := ⟨1, false, (TypeDesc.func #[] #[28] false), Value.nilFunc, 8, false, false, false⟩
theorem tf45 : TF Try.prog 45 ti45 := ⟨Try.sizeOf45, Try.isAgg45, Try.underlying45, Try.zeroValue45, by kernel_rfl, by kernel_rfl, by kernel_rfl, by kernel_rfl⟩
def ti46 : TI := ⟨1, false, (TypeDesc.func #[] #[44] false), Value.nilFunc, 8, false, false, false⟩
theorem tf46 : TF Try.prog 46 ti46 := ⟨Try.sizeOf46, Try.isAgg46, Try.underlying46, Try.zeroValue46, by kernel_rfl, by kernel_rfl, by kernel_rfl, by kernel_rfl⟩
def ti47 : TI := ⟨1, false, (TypeDesc.func #[] #[9] false), Value.nilFunc, 8, false, false, false⟩
theorem tf47 : TF Try.prog 47 ti47 := ⟨Try.sizeOf47, Try.isAgg47, Try.underlying47, Try.zeroValue47, by kernel_rfl, by kernel_rfl, by kernel_rfl, by kernel_rfl⟩
def ti48 : TI := ⟨1, false, (TypeDesc.func #[22, 23, 23] #[4] false), Value.nilFunc, 8, false, false, false⟩
theorem tf48 : TF Try.prog 48 ti48 := ⟨Try.sizeOf48, Try.isAgg48, Try.underlying48, Try.zeroValue48, by kernel_rfl, by kernel_rfl, by kernel_rfl, by kernel_rfl⟩
def ti49 : TI := ⟨1, false, (TypeDesc.slice 55), (Value.slice none 0 0), 24, false, false, false⟩
theorem tf49 : TF Try.prog 49 ti49 := ⟨Try.sizeOf49, Try.isAgg49, Try.underlying49, Try.zeroValue49, by kernel_rfl, by kernel_rfl, by kernel_rfl, by kernel_rfl⟩
def ti50 : TI := ⟨1, false, (TypeDesc.pointer 53), (Value.pointer none), 8, false, false, true⟩
theorem tf50 : TF Try.prog 50 ti50 := ⟨Try.sizeOf50, Try.isAgg50, Try.underlying50, Try.zeroValue50, by kernel_rfl, by kernel_rfl, by kernel_rfl, by kernel_rfl⟩
def ti51 : TI := ⟨1, false, (TypeDesc.slice 38), (Value.slice none 0 0), 24, false, false, false⟩
theorem tf51 : TF Try.prog 51 ti51 := ⟨Try.sizeOf51, Try.isAgg51, Try.underlying51, Try.zeroValue51, by kernel_rfl, by kernel_rfl, by kernel_rfl, by kernel_rfl⟩
def ti52 : TI := ⟨2, true, (TypeDesc.struct #[{ name := "L", type := 22, offset := 0, embedded := false, tag := "", pkgPath := "", byteOffset := 0 }, { name := "Gone", type := 51, offset := 1, embedded := false, tag := "", pkgPath := "", byteOffset := 24 }]), (Value.agg #[Value.slice none 0 0, Value.slice none 0 0]), 48, false, false, false⟩
theorem tf52 : TF Try.prog 52 ti52 := ⟨Try.sizeOf52, Try.isAgg52, Try.underlying52, Try.zeroValue52, by kernel_rfl, by kernel_rfl, by kernel_rfl, by kernel_rfl⟩
def ti53 : TI := ⟨2, true, (TypeDesc.struct #[{ name := "L", type := 22, offset := 0, embedded := false, tag := "", pkgPath := "", byteOffset := 0 }, { name := "Gone", type := 51, offset := 1, embedded := false, tag := "", pkgPath := "", byteOffset := 24 }]), (Value.agg #[Value.slice none 0 0, Value.slice none 0 0]), 48, false, false, false⟩
theorem tf53 : TF Try.prog 53 ti53 := ⟨Try.sizeOf53, Try.isAgg53, Try.underlying53, Try.zeroValue53, by kernel_rfl, by kernel_rfl, by kernel_rfl, by kernel_rfl⟩
def ti54 : TI := ⟨9, true, (TypeDesc.struct #[{ name := "What", type := 3, offset := 0, embedded := false, tag := "", pkgPath := "", byteOffset := 0 }, { name := "I", type := 40, offset := 1, embedded := false, tag := "", pkgPath := "", byteOffset := 8 }, { name := "Gone", type := 4, offset := 8, embedded := false, tag := "", pkgPath := "", byteOffset := 36 }]), (Value.agg #[Value.int IntKind.i64 0, Value.int IntKind.u32 0, Value.int IntKind.u32 0, Value.int IntKind.u32 0, Value.int IntKind.u32 0, Value.int IntKind.u32 0, Value.int IntKind.u32 0, Value.int IntKind.i32 0, Value.bool false]), 40, false, false, true⟩
theorem tf54 : TF Try.prog 54 ti54 := ⟨Try.sizeOf54, Try.isAgg54, Try.underlying54, Try.zeroValue54, by kernel_rfl, by kernel_rfl, by kernel_rfl, by kernel_rfl⟩
def ti55 : TI := ⟨9, true, (TypeDesc.struct #[{ name := "What", type := 3, offset := 0, embedded := false, tag := "", pkgPath := "", byteOffset := 0 }, { name := "I", type := 40, offset := 1, embedded := false, tag := "", pkgPath := "", byteOffset := 8 }, { name := "Gone", type := 4, offset := 8, embedded := false, tag := "", pkgPath := "", byteOffset := 36 }]), (Value.agg #[Value.int IntKind.i64 0, Value.int IntKind.u32 0, Value.int IntKind.u32 0, Value.int IntKind.u32 0, Value.int IntKind.u32 0, Value.int IntKind.u32 0, Value.int IntKind.u32 0, Value.int IntKind.i32 0, Value.bool false]), 40, false, false, true⟩
theorem tf55 : TF Try.prog 55 ti55 := ⟨Try.sizeOf55, Try.isAgg55, Try.underlying55, Try.zeroValue55, by kernel_rfl, by kernel_rfl, by kernel_rfl, by kernel_rfl⟩
def ti56 : TI := ⟨1, false, (TypeDesc.func #[38] #[4] false), Value.nilFunc, 8, false, false, false⟩
theorem tf56 : TF Try.prog 56 ti56 := ⟨Try.sizeOf56, Try.isAgg56, Try.underlying56, Try.zeroValue56, by kernel_rfl, by kernel_rfl, by kernel_rfl, by kernel_rfl⟩
def ti57 : TI := ⟨1, false, (TypeDesc.func #[40, 4] #[4] false), Value.nilFunc, 8, false, false, false⟩
theorem tf57 : TF Try.prog 57 ti57 := ⟨Try.sizeOf57, Try.isAgg57, Try.underlying57, Try.zeroValue57, by kernel_rfl, by kernel_rfl, by kernel_rfl, by kernel_rfl⟩
def ti58 : TI := ⟨1, false, (TypeDesc.func #[33] #[3] false), Value.nilFunc, 8, false, false, false⟩
theorem tf58 : TF Try.prog 58 ti58 := ⟨Try.sizeOf58, Try.isAgg58, Try.underlying58, Try.zeroValue58, by kernel_rfl, by kernel_rfl, by kernel_rfl, by kernel_rfl⟩
def ti59 : TI := ⟨1, false, (TypeDesc.func #[31, 50, 38] #[3] false), Value.nilFunc, 8, false, false, false⟩
theorem tf59 : TF Try.prog 59 ti59 := ⟨Try.sizeOf59, Try.isAgg59, Try.underlying59, Try.zeroValue59, by kernel_rfl, by kernel_rfl, by kernel_rfl, by kernel_rfl⟩
def ti60 : TI := ⟨1, false, (TypeDesc.func #[49] #[4] false), Value.nilFunc, 8, false, false, false⟩
theorem tf60 : TF Try.prog 60 ti60 := ⟨Try.sizeOf60, Try.isAgg60, Try.underlying60, Try.zeroValue60, by kernel_rfl, by kernel_rfl, by kernel_rfl, by kernel_rfl⟩
def ti62 : TI := ⟨1, false, (TypeDesc.func #[3] #[38, 38, 33] false), Value.nilFunc, 8, false, false, false⟩
theorem tf62 : TF Try.prog 62 ti62 := ⟨Try.sizeOf62, Try.isAgg62, Try.underlying62, Try.zeroValue62, by kernel_rfl, by kernel_rfl, by kernel_rfl, by kernel_rfl⟩
def ti64 : TI := ⟨1, false, (TypeDesc.func #[44, 3] #[38, 38, 4] false), Value.nilFunc, 8, false, false, false⟩
theorem tf64 : TF Try.prog 64 ti64 := ⟨Try.sizeOf64, Try.isAgg64, Try.underlying64, Try.zeroValue64, by kernel_rfl, by kernel_rfl, by kernel_rfl, by kernel_rfl⟩
def ti66 : TI := ⟨1, false, (TypeDesc.func #[3, 3] #[51, 33] false), Value.nilFunc, 8, false, false, false⟩
theorem tf66 : TF Try.prog 66 ti66 := ⟨Try.sizeOf66, Try.isAgg66, Try.underlying66, Try.zeroValue66, by kernel_rfl, by kernel_rfl, by kernel_rfl, by kernel_rfl⟩
def ti68 : TI := ⟨1, false, (TypeDesc.func #[44, 3, 3] #[51, 4] false), Value.nilFunc, 8, false, false, false⟩
theorem tf68 : TF Try.prog 68 ti68 := ⟨Try.sizeOf68, Try.isAgg68, Try.underlying68, Try.zeroValue68, by kernel_rfl, by kernel_rfl, by kernel_rfl, by kernel_rfl⟩
def ti69 : TI := ⟨1, false, (TypeDesc.func #[51, 51] #[4] false), Value.nilFunc, 8, false, false, false⟩
theorem tf69 : TF Try.prog 69 ti69 := ⟨Try.sizeOf69, Try.isAgg69, Try.underlying69, Try.zeroValue69, by kernel_rfl, by kernel_rfl, by kernel_rfl, by kernel_rfl⟩
def ti70 : TI := ⟨1, false, (TypeDesc.func #[22, 23, 3, 3] #[4] false), Value.nilFunc, 8, false, false, false⟩
theorem tf70 : TF Try.prog 70 ti70 := ⟨Try.sizeOf70, Try.isAgg70, Try.underlying70, Try.zeroValue70, by kernel_rfl, by kernel_rfl, by kernel_rfl, by kernel_rfl⟩
def ti71 : TI := ⟨1, false, (TypeDesc.slice 115), (Value.slice none 0 0), 24, false, false, false⟩
theorem tf71 : TF Try.prog 71 ti71 := ⟨Try.sizeOf71, Try.isAgg71, Try.underlying71, Try.zeroValue71, by kernel_rfl, by kernel_rfl, by kernel_rfl, by kernel_rfl⟩
def ti72 : TI := ⟨1, false, (TypeDesc.func #[71] #[4] false), Value.nilFunc, 8, false, false, false⟩
theorem tf72 : TF Try.prog 72 ti72 := ⟨Try.sizeOf72, Try.isAgg72, Try.underlying72, Try.zeroValue72, by kernel_rfl, by kernel_rfl, by kernel_rfl, by kernel_rfl⟩
def ti73 : TI := ⟨1, false, (TypeDesc.func #[71, 22] #[22] false), Value.nilFunc, 8, false, false, false⟩
theorem tf73 : TF Try.prog 73 ti73 := ⟨Try.sizeOf73, Try.isAgg73, Try.underlying73, Try.zeroValue73, by kernel_rfl, by kernel_rfl, by kernel_rfl, by kernel_rfl⟩
def ti74 : TI := ⟨1, false, (TypeDesc.func #[71, 40] #[4] false), Value.nilFunc, 8, false, false, false⟩
theorem tf74 : TF Try.prog 74 ti74 := ⟨Try.sizeOf74, Try.isAgg74, Try.underlying74, Try.zeroValue74, by kernel_rfl, by kernel_rfl, by kernel_rfl, by kernel_rfl⟩
def ti76 : TI := ⟨1, false, (TypeDesc.func #[71, 22] #[22, 22, 71] false), Value.nilFunc, 8, false, false, false⟩
theorem tf76 : TF Try.prog 76 ti76 := ⟨Try.sizeOf76, Try.isAgg76, Try.underlying76, Try.zeroValue76, by kernel_rfl, by kernel_rfl, by kernel_rfl, by kernel_rfl⟩
def ti77 : TI := ⟨1, false, (TypeDesc.func #[22, 22] #[4] false), Value.nilFunc, 8, false, false, false⟩
theorem tf77 : TF Try.prog 77 ti77 := ⟨Try.sizeOf77, Try.isAgg77, Try.underlying77, Try.zeroValue77, by kernel_rfl, by kernel_rfl, by kernel_rfl, by kernel_rfl⟩
def ti78 : TI := ⟨1, false, (TypeDesc.func #[71, 71] #[4] false), Value.nilFunc, 8, false, false, false⟩
theorem tf78 : TF Try.prog 78 ti78 := ⟨Try.sizeOf78, Try.isAgg78, Try.underlying78, Try.zeroValue78, by kernel_rfl, by kernel_rfl, by kernel_rfl, by kernel_rfl⟩
def ti79 : TI := ⟨1, false, (TypeDesc.func #[71, 22] #[4] false), Value.nilFunc, 8, false, false, false⟩
theorem tf79 : TF Try.prog 79 ti79 := ⟨Try.sizeOf79, Try.isAgg79, Try.underlying79, Try.zeroValue79, by kernel_rfl, by kernel_rfl, by kernel_rfl, by kernel_rfl⟩
def ti80 : TI := ⟨1, false, (TypeDesc.func #[71, 22, 3] #[4] false), Value.nilFunc, 8, false, false, false⟩
theorem tf80 : TF Try.prog 80 ti80 := ⟨Try.sizeOf80, Try.isAgg80, Try.underlying80, Try.zeroValue80, by kernel_rfl, by kernel_rfl, by kernel_rfl, by kernel_rfl⟩
def ti81 : TI := ⟨1, false, (TypeDesc.func #[21] #[4] false), Value.nilFunc, 8, false, false, false⟩
theorem tf81 : TF Try.prog 81 ti81 := ⟨Try.sizeOf81, Try.isAgg81, Try.underlying81, Try.zeroValue81, by kernel_rfl, by kernel_rfl, by kernel_rfl, by kernel_rfl⟩
def ti82 : TI := ⟨1, false, (TypeDesc.func #[22] #[4] false), Value.nilFunc, 8, false, false, false⟩
theorem tf82 : TF Try.prog 82 ti82 := ⟨Try.sizeOf82, Try.isAgg82, Try.underlying82, Try.zeroValue82, by kernel_rfl, by kernel_rfl, by kernel_rfl, by kernel_rfl⟩
def ti84 : TI := ⟨1, false, (TypeDesc.func #[38] #[3, 4] false), Value.nilFunc, 8, false, false, false⟩
theorem tf84 : TF Try.prog 84 ti84 := ⟨Try.sizeOf84, Try.isAgg84, Try.underlying84, Try.zeroValue84, by kernel_rfl, by kernel_rfl, by kernel_rfl, by kernel_rfl⟩
def ti85 : TI := ⟨1, false, (TypeDesc.int IntKind.i64), (Value.int IntKind.i64 0), 8, false, false, true⟩
theorem tf85 : TF Try.prog 85 ti85 := ⟨Try.sizeOf85, Try.isAgg85, Try.underlying85, Try.zeroValue85, by kernel_rfl, by kernel_rfl, by kernel_rfl, by kernel_rfl⟩
def ti86 : TI := ⟨3, true, (TypeDesc.struct #[{ name := "On", type := 38, offset := 0, embedded := false, tag := "", pkgPath := "", byteOffset := 0 }, { name := "Right", type := 4, offset := 2, embedded := false, tag := "", pkgPath := "", byteOffset := 8 }]), (Value.agg #[Value.int IntKind.u32 0, Value.int IntKind.u32 0, Value.bool false]), 12, false, false, true⟩
theorem tf86 : TF Try.prog 86 ti86 := ⟨Try.sizeOf86, Try.isAgg86, Try.underlying86, Try.zeroValue86, by kernel_rfl, by kernel_rfl, by kernel_rfl, by kernel_rfl⟩
def ti87 : TI := ⟨3, true, (TypeDesc.struct #[{ name := "On", type := 38, offset := 0, embedded := false, tag := "", pkgPath := "", byteOffset := 0 }, { name := "Right", type := 4, offset := 2, embedded := false, tag := "", pkgPath := "", byteOffset := 8 }]), (Value.agg #[Value.int IntKind.u32 0, Value.int IntKind.u32 0, Value.bool false]), 12, false, false, true⟩
theorem tf87 : TF Try.prog 87 ti87 := ⟨Try.sizeOf87, Try.isAgg87, Try.underlying87, Try.zeroValue87, by kernel_rfl, by kernel_rfl, by kernel_rfl, by kernel_rfl⟩
def ti88 : TI := ⟨1, false, (TypeDesc.func #[40] #[87] false), Value.nilFunc, 8, false, false, false⟩
theorem tf88 : TF Try.prog 88 ti88 := ⟨Try.sizeOf88, Try.isAgg88, Try.underlying88, Try.zeroValue88, by kernel_rfl, by kernel_rfl, by kernel_rfl, by kernel_rfl⟩
def ti90 : TI := ⟨1, false, (TypeDesc.func #[3, 93] #[28, 33] false), Value.nilFunc, 8, false, false, false⟩
theorem tf90 : TF Try.prog 90 ti90 := ⟨Try.sizeOf90, Try.isAgg90, Try.underlying90, Try.zeroValue90, by kernel_rfl, by kernel_rfl, by kernel_rfl, by kernel_rfl⟩
def ti91 : TI := ⟨1, false, (TypeDesc.func #[40, 87] #[3] false), Value.nilFunc, 8, false, false, false⟩
theorem tf91 : TF Try.prog 91 ti91 := ⟨Try.sizeOf91, Try.isAgg91, Try.underlying91, Try.zeroValue91, by kernel_rfl, by kernel_rfl, by kernel_rfl, by kernel_rfl⟩
def ti92 : TI := ⟨4, true, (TypeDesc.struct #[{ name := "Id", type := 38, offset := 0, embedded := false, tag := "", pkgPath := "", byteOffset := 0 }, { name := "Ch", type := 21, offset := 2, embedded := false, tag := "", pkgPath := "", byteOffset := 8 }, { name := "Gone", type := 4, offset := 3, embedded := false, tag := "", pkgPath := "", byteOffset := 12 }]), (Value.agg #[Value.int IntKind.u32 0, Value.int IntKind.u32 0, Value.int IntKind.i32 0, Value.bool false]), 16, false, false, true⟩
theorem tf92 : TF Try.prog 92 ti92 := ⟨Try.sizeOf92, Try.isAgg92, Try.underlying92, Try.zeroValue92, by kernel_rfl, by kernel_rfl, by kernel_rfl, by kernel_rfl⟩
def ti93 : TI := ⟨4, true, (TypeDesc.struct #[{ name := "Id", type := 38, offset := 0, embedded := false, tag := "", pkgPath := "", byteOffset := 0 }, { name := "Ch", type := 21, offset := 2, embedded := false, tag := "", pkgPath := "", byteOffset := 8 }, { name := "Gone", type := 4, offset := 3, embedded := false, tag := "", pkgPath := "", byteOffset := 12 }]), (Value.agg #[Value.int IntKind.u32 0, Value.int IntKind.u32 0, Value.int IntKind.i32 0, Value.bool false]), 16, false, false, true⟩
theorem tf93 : TF Try.prog 93 ti93 := ⟨Try.sizeOf93, Try.isAgg93, Try.underlying93, Try.zeroValue93, by kernel_rfl, by kernel_rfl, by kernel_rfl, by kernel_rfl⟩
def ti94 : TI := ⟨1, false, (TypeDesc.func #[29, 3, 29] #[29] true), Value.nilFunc, 8, false, false, false⟩
theorem tf94 : TF Try.prog 94 ti94 := ⟨Try.sizeOf94, Try.isAgg94, Try.underlying94, Try.zeroValue94, by kernel_rfl, by kernel_rfl, by kernel_rfl, by kernel_rfl⟩
def ti95 : TI := ⟨10, true, (TypeDesc.struct #[{ name := "i", type := 40, offset := 0, embedded := false, tag := "", pkgPath := "surcingle/list", byteOffset := 0 }, { name := "hang", type := 87, offset := 7, embedded := false, tag := "", pkgPath := "surcingle/list", byteOffset := 28 }]), (Value.agg #[Value.int IntKind.u32 0, Value.int IntKind.u32 0, Value.int IntKind.u32 0, Value.int IntKind.u32 0, Value.int IntKind.u32 0, Value.int IntKind.u32 0, Value.int IntKind.i32 0, Value.int IntKind.u32 0, Value.int IntKind.u32 0, Value.bool false]), 40, false, false, true⟩
theorem tf95 : TF Try.prog 95 ti95 := ⟨Try.sizeOf95, Try.isAgg95, Try.underlying95, Try.zeroValue95, by kernel_rfl, by kernel_rfl, by kernel_rfl, by kernel_rfl⟩
def ti96 : TI := ⟨10, true, (TypeDesc.struct #[{ name := "i", type := 40, offset := 0, embedded := false, tag := "", pkgPath := "surcingle/list", byteOffset := 0 }, { name := "hang", type := 87, offset := 7, embedded := false, tag := "", pkgPath := "surcingle/list", byteOffset := 28 }]), (Value.agg #[Value.int IntKind.u32 0, Value.int IntKind.u32 0, Value.int IntKind.u32 0, Value.int IntKind.u32 0, Value.int IntKind.u32 0, Value.int IntKind.u32 0, Value.int IntKind.i32 0, Value.int IntKind.u32 0, Value.int IntKind.u32 0, Value.bool false]), 40, false, false, true⟩
theorem tf96 : TF Try.prog 96 ti96 := ⟨Try.sizeOf96, Try.isAgg96, Try.underlying96, Try.zeroValue96, by kernel_rfl, by kernel_rfl, by kernel_rfl, by kernel_rfl⟩
def ti97 : TI := ⟨1, false, (TypeDesc.func #[29] #[29] false), Value.nilFunc, 8, false, false, false⟩
theorem tf97 : TF Try.prog 97 ti97 := ⟨Try.sizeOf97, Try.isAgg97, Try.underlying97, Try.zeroValue97, by kernel_rfl, by kernel_rfl, by kernel_rfl, by kernel_rfl⟩
def ti98 : TI := ⟨1, false, (TypeDesc.func #[38] #[28, 33] false), Value.nilFunc, 8, false, false, false⟩
theorem tf98 : TF Try.prog 98 ti98 := ⟨Try.sizeOf98, Try.isAgg98, Try.underlying98, Try.zeroValue98, by kernel_rfl, by kernel_rfl, by kernel_rfl, by kernel_rfl⟩
def ti99 : TI := ⟨2, true, (TypeDesc.struct #[{ name := "l", type := 44, offset := 0, embedded := false, tag := "", pkgPath := "surcingle/index", byteOffset := 0 }, { name := "shown", type := 3, offset := 1, embedded := false, tag := "", pkgPath := "surcingle/index", byteOffset := 24 }]), (Value.agg #[Value.slice none 0 0, Value.int IntKind.i64 0]), 32, false, false, false⟩
theorem tf99 : TF Try.prog 99 ti99 := ⟨Try.sizeOf99, Try.isAgg99, Try.underlying99, Try.zeroValue99, by kernel_rfl, by kernel_rfl, by kernel_rfl, by kernel_rfl⟩
def ti100 : TI := ⟨2, true, (TypeDesc.struct #[{ name := "l", type := 44, offset := 0, embedded := false, tag := "", pkgPath := "surcingle/index", byteOffset := 0 }, { name := "shown", type := 3, offset := 1, embedded := false, tag := "", pkgPath := "surcingle/index", byteOffset := 24 }]), (Value.agg #[Value.slice none 0 0, Value.int IntKind.i64 0]), 32, false, false, false⟩
theorem tf100 : TF Try.prog 100 ti100 := ⟨Try.sizeOf100, Try.isAgg100, Try.underlying100, Try.zeroValue100, by kernel_rfl, by kernel_rfl, by kernel_rfl, by kernel_rfl⟩
def ti101 : TI := ⟨1, false, (TypeDesc.slice 21), (Value.slice none 0 0), 24, false, false, false⟩
theorem tf101 : TF Try.prog 101 ti101 := ⟨Try.sizeOf101, Try.isAgg101, Try.underlying101, Try.zeroValue101, by kernel_rfl, by kernel_rfl, by kernel_rfl, by kernel_rfl⟩
def ti102 : TI := ⟨1, false, (TypeDesc.func #[22, 38] #[3] false), Value.nilFunc, 8, false, false, false⟩
theorem tf102 : TF Try.prog 102 ti102 := ⟨Try.sizeOf102, Try.isAgg102, Try.underlying102, Try.zeroValue102, by kernel_rfl, by kernel_rfl, by kernel_rfl, by kernel_rfl⟩
def ti104 : TI := ⟨1, false, (TypeDesc.func #[38] #[40, 4] false), Value.nilFunc, 8, false, false, false⟩
theorem tf104 : TF Try.prog 104 ti104 := ⟨Try.sizeOf104, Try.isAgg104, Try.underlying104, Try.zeroValue104, by kernel_rfl, by kernel_rfl, by kernel_rfl, by kernel_rfl⟩
def ti105 : TI := ⟨1, false, (TypeDesc.func #[44] #[9] false), Value.nilFunc, 8, false, false, false⟩
theorem tf105 : TF Try.prog 105 ti105 := ⟨Try.sizeOf105, Try.isAgg105, Try.underlying105, Try.zeroValue105, by kernel_rfl, by kernel_rfl, by kernel_rfl, by kernel_rfl⟩
def ti106 : TI := ⟨1, false, (TypeDesc.func #[22] #[51] false), Value.nilFunc, 8, false, false, false⟩
theorem tf106 : TF Try.prog 106 ti106 := ⟨Try.sizeOf106, Try.isAgg106, Try.underlying106, Try.zeroValue106, by kernel_rfl, by kernel_rfl, by kernel_rfl, by kernel_rfl⟩
def ti107 : TI := ⟨1, false, (TypeDesc.func #[] #[3] false), Value.nilFunc, 8, false, false, false⟩
theorem tf107 : TF Try.prog 107 ti107 := ⟨Try.sizeOf107, Try.isAgg107, Try.underlying107, Try.zeroValue107, by kernel_rfl, by kernel_rfl, by kernel_rfl, by kernel_rfl⟩
def ti109 : TI := ⟨1, false, (TypeDesc.func #[3] #[3, 33] false), Value.nilFunc, 8, false, false, false⟩
theorem tf109 : TF Try.prog 109 ti109 := ⟨Try.sizeOf109, Try.isAgg109, Try.underlying109, Try.zeroValue109, by kernel_rfl, by kernel_rfl, by kernel_rfl, by kernel_rfl⟩
def ti111 : TI := ⟨1, false, (TypeDesc.func #[3] #[93, 33] false), Value.nilFunc, 8, false, false, false⟩
theorem tf111 : TF Try.prog 111 ti111 := ⟨Try.sizeOf111, Try.isAgg111, Try.underlying111, Try.zeroValue111, by kernel_rfl, by kernel_rfl, by kernel_rfl, by kernel_rfl⟩
def ti112 : TI := ⟨1, false, (TypeDesc.func #[44] #[23] false), Value.nilFunc, 8, false, false, false⟩
theorem tf112 : TF Try.prog 112 ti112 := ⟨Try.sizeOf112, Try.isAgg112, Try.underlying112, Try.zeroValue112, by kernel_rfl, by kernel_rfl, by kernel_rfl, by kernel_rfl⟩
def ti113 : TI := ⟨1, false, (TypeDesc.func #[71, 36] #[36] false), Value.nilFunc, 8, false, false, false⟩
theorem tf113 : TF Try.prog 113 ti113 := ⟨Try.sizeOf113, Try.isAgg113, Try.underlying113, Try.zeroValue113, by kernel_rfl, by kernel_rfl, by kernel_rfl, by kernel_rfl⟩
def ti114 : TI := ⟨2, true, (TypeDesc.struct #[{ name := "Client", type := 36, offset := 0, embedded := false, tag := "", pkgPath := "", byteOffset := 0 }, { name := "Next", type := 36, offset := 1, embedded := false, tag := "", pkgPath := "", byteOffset := 4 }]), (Value.agg #[Value.int IntKind.u32 0, Value.int IntKind.u32 0]), 8, false, false, true⟩
theorem tf114 : TF Try.prog 114 ti114 := ⟨Try.sizeOf114, Try.isAgg114, Try.underlying114, Try.zeroValue114, by kernel_rfl, by kernel_rfl, by kernel_rfl, by kernel_rfl⟩
def ti115 : TI := ⟨2, true, (TypeDesc.struct #[{ name := "Client", type := 36, offset := 0, embedded := false, tag := "", pkgPath := "", byteOffset := 0 }, { name := "Next", type := 36, offset := 1, embedded := false, tag := "", pkgPath := "", byteOffset := 4 }]), (Value.agg #[Value.int IntKind.u32 0, Value.int IntKind.u32 0]), 8, false, false, true⟩
theorem tf115 : TF Try.prog 115 ti115 := ⟨Try.sizeOf115, Try.isAgg115, Try.underlying115, Try.zeroValue115, by kernel_rfl, by kernel_rfl, by kernel_rfl, by kernel_rfl⟩
def ti116 : TI := ⟨1, false, (TypeDesc.func #[22, 118] #[] false), Value.nilFunc, 8, false, false, false⟩
theorem tf116 : TF Try.prog 116 ti116 := ⟨Try.sizeOf116, Try.isAgg116, Try.underlying116, Try.zeroValue116, by kernel_rfl, by kernel_rfl, by kernel_rfl, by kernel_rfl⟩
def ti117 : TI := ⟨1, false, (TypeDesc.func #[38, 38] #[3] false), Value.nilFunc, 8, false, false, false⟩
theorem tf117 : TF Try.prog 117 ti117 := ⟨Try.sizeOf117, Try.isAgg117, Try.underlying117, Try.zeroValue117, by kernel_rfl, by kernel_rfl, by kernel_rfl, by kernel_rfl⟩
def ti118 : TI := ⟨1, false, (TypeDesc.func #[40, 40] #[3] false), Value.nilFunc, 8, false, false, false⟩
theorem tf118 : TF Try.prog 118 ti118 := ⟨Try.sizeOf118, Try.isAgg118, Try.underlying118, Try.zeroValue118, by kernel_rfl, by kernel_rfl, by kernel_rfl, by kernel_rfl⟩
def ti119 : TI := ⟨1, false, (TypeDesc.func #[71] #[71] false), Value.nilFunc, 8, false, false, false⟩
theorem tf119 : TF Try.prog 119 ti119 := ⟨Try.sizeOf119, Try.isAgg119, Try.underlying119, Try.zeroValue119, by kernel_rfl, by kernel_rfl, by kernel_rfl, by kernel_rfl⟩
def ti120 : TI := ⟨1, false, (TypeDesc.func #[22, 121] #[3] false), Value.nilFunc, 8, false, false, false⟩
theorem tf120 : TF Try.prog 120 ti120 := ⟨Try.sizeOf120, Try.isAgg120, Try.underlying120, Try.zeroValue120, by kernel_rfl, by kernel_rfl, by kernel_rfl, by kernel_rfl⟩
def ti121 : TI := ⟨1, false, (TypeDesc.func #[40] #[4] false), Value.nilFunc, 8, false, false, false⟩
theorem tf121 : TF Try.prog 121 ti121 := ⟨Try.sizeOf121, Try.isAgg121, Try.underlying121, Try.zeroValue121, by kernel_rfl, by kernel_rfl, by kernel_rfl, by kernel_rfl⟩
def ti122 : TI := ⟨1, false, (TypeDesc.func #[22, 3, 3] #[22] false), Value.nilFunc, 8, false, false, false⟩
theorem tf122 : TF Try.prog 122 ti122 := ⟨Try.sizeOf122, Try.isAgg122, Try.underlying122, Try.zeroValue122, by kernel_rfl, by kernel_rfl, by kernel_rfl, by kernel_rfl⟩
def ti123 : TI := ⟨1, false, (TypeDesc.func #[71, 36, 36] #[71] false), Value.nilFunc, 8, false, false, false⟩
theorem tf123 : TF Try.prog 123 ti123 := ⟨Try.sizeOf123, Try.isAgg123, Try.underlying123, Try.zeroValue123, by kernel_rfl, by kernel_rfl, by kernel_rfl, by kernel_rfl⟩
def ti124 : TI := ⟨1, false, (TypeDesc.func #[29, 38, 125] #[3, 4] false), Value.nilFunc, 8, false, false, false⟩
theorem tf124 : TF Try.prog 124 ti124 := ⟨Try.sizeOf124, Try.isAgg124, Try.underlying124, Try.zeroValue124, by kernel_rfl, by kernel_rfl, by kernel_rfl, by kernel_rfl⟩
def ti125 : TI := ⟨1, false, (TypeDesc.func #[96, 38] #[3] false), Value.nilFunc, 8, false, false, false⟩
theorem tf125 : TF Try.prog 125 ti125 := ⟨Try.sizeOf125, Try.isAgg125, Try.underlying125, Try.zeroValue125, by kernel_rfl, by kernel_rfl, by kernel_rfl, by kernel_rfl⟩
def ti126 : TI := ⟨1, false, (TypeDesc.func #[38, 38] #[4] false), Value.nilFunc, 8, false, false, false⟩
theorem tf126 : TF Try.prog 126 ti126 := ⟨Try.sizeOf126, Try.isAgg126, Try.underlying126, Try.zeroValue126, by kernel_rfl, by kernel_rfl, by kernel_rfl, by kernel_rfl⟩
def ti127 : TI := ⟨1, false, (TypeDesc.func #[44, 3, 44] #[44] true), Value.nilFunc, 8, false, false, false⟩
theorem tf127 : TF Try.prog 127 ti127 := ⟨Try.sizeOf127, Try.isAgg127, Try.underlying127, Try.zeroValue127, by kernel_rfl, by kernel_rfl, by kernel_rfl, by kernel_rfl⟩
def ti128 : TI := ⟨1, false, (TypeDesc.func #[44] #[44] false), Value.nilFunc, 8, false, false, false⟩
theorem tf128 : TF Try.prog 128 ti128 := ⟨Try.sizeOf128, Try.isAgg128, Try.underlying128, Try.zeroValue128, by kernel_rfl, by kernel_rfl, by kernel_rfl, by kernel_rfl⟩
def ti129 : TI := ⟨1, false, (TypeDesc.func #[3, 26] #[28] true), Value.nilFunc, 8, false, false, false⟩
theorem tf129 : TF Try.prog 129 ti129 := ⟨Try.sizeOf129, Try.isAgg129, Try.underlying129, Try.zeroValue129, by kernel_rfl, by kernel_rfl, by kernel_rfl, by kernel_rfl⟩
def ti130 : TI := ⟨1, false, (TypeDesc.func #[44] #[100] false), Value.nilFunc, 8, false, false, false⟩
theorem tf130 : TF Try.prog 130 ti130 := ⟨Try.sizeOf130, Try.isAgg130, Try.underlying130, Try.zeroValue130, by kernel_rfl, by kernel_rfl, by kernel_rfl, by kernel_rfl⟩
def ti131 : TI := ⟨1, false, (TypeDesc.func #[44] #[28] false), Value.nilFunc, 8, false, false, false⟩
theorem tf131 : TF Try.prog 131 ti131 := ⟨Try.sizeOf131, Try.isAgg131, Try.underlying131, Try.zeroValue131, by kernel_rfl, by kernel_rfl, by kernel_rfl, by kernel_rfl⟩
def ti133 : TI := ⟨1, false, (TypeDesc.func #[38, 87] #[38, 4] false), Value.nilFunc, 8, false, false, false⟩
theorem tf133 : TF Try.prog 133 ti133 := ⟨Try.sizeOf133, Try.isAgg133, Try.underlying133, Try.zeroValue133, by kernel_rfl, by kernel_rfl, by kernel_rfl, by kernel_rfl⟩
def ti134 : TI := ⟨1, false, (TypeDesc.func #[29, 29] #[4] false), Value.nilFunc, 8, false, false, false⟩
theorem tf134 : TF Try.prog 134 ti134 := ⟨Try.sizeOf134, Try.isAgg134, Try.underlying134, Try.zeroValue134, by kernel_rfl, by kernel_rfl, by kernel_rfl, by kernel_rfl⟩
def ti135 : TI := ⟨1, false, (TypeDesc.func #[29, 3] #[] false), Value.nilFunc, 8, false, false, false⟩
theorem tf135 : TF Try.prog 135 ti135 := ⟨Try.sizeOf135, Try.isAgg135, Try.underlying135, Try.zeroValue135, by kernel_rfl, by kernel_rfl, by kernel_rfl, by kernel_rfl⟩
def ti137 : TI := ⟨1, false, (TypeDesc.func #[38] #[3, 3, 4] false), Value.nilFunc, 8, false, false, false⟩
theorem tf137 : TF Try.prog 137 ti137 := ⟨Try.sizeOf137, Try.isAgg137, Try.underlying137, Try.zeroValue137, by kernel_rfl, by kernel_rfl, by kernel_rfl, by kernel_rfl⟩
def ti138 : TI := ⟨1, false, (TypeDesc.func #[22, 139, 141] #[51] false), Value.nilFunc, 8, false, false, false⟩
theorem tf138 : TF Try.prog 138 ti138 := ⟨Try.sizeOf138, Try.isAgg138, Try.underlying138, Try.zeroValue138, by kernel_rfl, by kernel_rfl, by kernel_rfl, by kernel_rfl⟩
def ti139 : TI := ⟨1, false, (TypeDesc.slice 141), (Value.slice none 0 0), 24, false, false, false⟩
theorem tf139 : TF Try.prog 139 ti139 := ⟨Try.sizeOf139, Try.isAgg139, Try.underlying139, Try.zeroValue139, by kernel_rfl, by kernel_rfl, by kernel_rfl, by kernel_rfl⟩
def ti140 : TI := ⟨1, false, (TypeDesc.func #[22] #[139] false), Value.nilFunc, 8, false, false, false⟩
theorem tf140 : TF Try.prog 140 ti140 := ⟨Try.sizeOf140, Try.isAgg140, Try.underlying140, Try.zeroValue140, by kernel_rfl, by kernel_rfl, by kernel_rfl, by kernel_rfl⟩
def ti141 : TI := ⟨3, true, (TypeDesc.struct #[{ name := "On", type := 38, offset := 0, embedded := false, tag := "", pkgPath := "", byteOffset := 0 }, { name := "Right", type := 4, offset := 2, embedded := false, tag := "", pkgPath := "", byteOffset := 8 }]), (Value.agg #[Value.int IntKind.u32 0, Value.int IntKind.u32 0, Value.bool false]), 12, false, false, true⟩
theorem tf141 : TF Try.prog 141 ti141 := ⟨Try.sizeOf141, Try.isAgg141, Try.underlying141, Try.zeroValue141, by kernel_rfl, by kernel_rfl, by kernel_rfl, by kernel_rfl⟩
def ti142 : TI := ⟨1, false, (TypeDesc.func #[71, 36] #[3, 4] false), Value.nilFunc, 8, false, false, false⟩
theorem tf142 : TF Try.prog 142 ti142 := ⟨Try.sizeOf142, Try.isAgg142, Try.underlying142, Try.zeroValue142, by kernel_rfl, by kernel_rfl, by kernel_rfl, by kernel_rfl⟩
def ti143 : TI := ⟨1, false, (TypeDesc.func #[22, 3, 3, 3, 118] #[] false), Value.nilFunc, 8, false, false, false⟩
theorem tf143 : TF Try.prog 143 ti143 := ⟨Try.sizeOf143, Try.isAgg143, Try.underlying143, Try.zeroValue143, by kernel_rfl, by kernel_rfl, by kernel_rfl, by kernel_rfl⟩
def ti144 : TI := ⟨1, false, (TypeDesc.func #[145] #[3] false), Value.nilFunc, 8, false, false, false⟩
theorem tf144 : TF Try.prog 144 ti144 := ⟨Try.sizeOf144, Try.isAgg144, Try.underlying144, Try.zeroValue144, by kernel_rfl, by kernel_rfl, by kernel_rfl, by kernel_rfl⟩
def ti145 : TI := ⟨1, false, (TypeDesc.int IntKind.u64), (Value.int IntKind.u64 0), 8, false, false, true⟩
theorem tf145 : TF Try.prog 145 ti145 := ⟨Try.sizeOf145, Try.isAgg145, Try.underlying145, Try.zeroValue145, by kernel_rfl, by kernel_rfl, by kernel_rfl, by kernel_rfl⟩
def ti146 : TI := ⟨1, false, (TypeDesc.func #[23] #[3] true), Value.nilFunc, 8, false, false, false⟩
theorem tf146 : TF Try.prog 146 ti146 := ⟨Try.sizeOf146, Try.isAgg146, Try.underlying146, Try.zeroValue146, by kernel_rfl, by kernel_rfl, by kernel_rfl, by kernel_rfl⟩
def ti147 : TI := ⟨1, false, (TypeDesc.func #[36, 36] #[3] false), Value.nilFunc, 8, false, false, false⟩
theorem tf147 : TF Try.prog 147 ti147 := ⟨Try.sizeOf147, Try.isAgg147, Try.underlying147, Try.zeroValue147, by kernel_rfl, by kernel_rfl, by kernel_rfl, by kernel_rfl⟩
def ti148 : TI := ⟨1, false, (TypeDesc.func #[71, 3, 3] #[71] false), Value.nilFunc, 8, false, false, false⟩
theorem tf148 : TF Try.prog 148 ti148 := ⟨Try.sizeOf148, Try.isAgg148, Try.underlying148, Try.zeroValue148, by kernel_rfl, by kernel_rfl, by kernel_rfl, by kernel_rfl⟩
def ti149 : TI := ⟨1, false, (TypeDesc.func #[71, 3, 71] #[71] true), Value.nilFunc, 8, false, false, false⟩
theorem tf149 : TF Try.prog 149 ti149 := ⟨Try.sizeOf149, Try.isAgg149, Try.underlying149, Try.zeroValue149, by kernel_rfl, by kernel_rfl, by kernel_rfl, by kernel_rfl⟩
def ti150 : TI := ⟨1, false, (TypeDesc.func #[44, 3] #[] false), Value.nilFunc, 8, false, false, false⟩
theorem tf150 : TF Try.prog 150 ti150 := ⟨Try.sizeOf150, Try.isAgg150, Try.underlying150, Try.zeroValue150, by kernel_rfl, by kernel_rfl, by kernel_rfl, by kernel_rfl⟩
def ti151 : TI := ⟨1, false, (TypeDesc.func #[26] #[28] false), Value.nilFunc, 8, false, false, false⟩
theorem tf151 : TF Try.prog 151 ti151 := ⟨Try.sizeOf151, Try.isAgg151, Try.underlying151, Try.zeroValue151, by kernel_rfl, by kernel_rfl, by kernel_rfl, by kernel_rfl⟩
def ti152 : TI := ⟨1, false, (TypeDesc.func #[26, 3, 3, 26] #[26] true), Value.nilFunc, 8, false, false, false⟩
theorem tf152 : TF Try.prog 152 ti152 := ⟨Try.sizeOf152, Try.isAgg152, Try.underlying152, Try.zeroValue152, by kernel_rfl, by kernel_rfl, by kernel_rfl, by kernel_rfl⟩
def ti153 : TI := ⟨1, false, (TypeDesc.func #[26] #[26] false), Value.nilFunc, 8, false, false, false⟩
theorem tf153 : TF Try.prog 153 ti153 := ⟨Try.sizeOf153, Try.isAgg153, Try.underlying153, Try.zeroValue153, by kernel_rfl, by kernel_rfl, by kernel_rfl, by kernel_rfl⟩
def ti154 : TI := ⟨1, false, (TypeDesc.func #[179] #[] false), Value.nilFunc, 8, false, false, false⟩
theorem tf154 : TF Try.prog 154 ti154 := ⟨Try.sizeOf154, Try.isAgg154, Try.underlying154, Try.zeroValue154, by kernel_rfl, by kernel_rfl, by kernel_rfl, by kernel_rfl⟩
def ti155 : TI := ⟨1, false, (TypeDesc.func #[179] #[] false), Value.nilFunc, 8, false, false, false⟩
theorem tf155 : TF Try.prog 155 ti155 := ⟨Try.sizeOf155, Try.isAgg155, Try.underlying155, Try.zeroValue155, by kernel_rfl, by kernel_rfl, by kernel_rfl, by kernel_rfl⟩
def ti156 : TI := ⟨1, false, (TypeDesc.func #[44, 3] #[155] false), Value.nilFunc, 8, false, false, false⟩
theorem tf156 : TF Try.prog 156 ti156 := ⟨Try.sizeOf156, Try.isAgg156, Try.underlying156, Try.zeroValue156, by kernel_rfl, by kernel_rfl, by kernel_rfl, by kernel_rfl⟩
def ti157 : TI := ⟨1, false, (TypeDesc.func #[44, 158] #[3] false), Value.nilFunc, 8, false, false, false⟩
theorem tf157 : TF Try.prog 157 ti157 := ⟨Try.sizeOf157, Try.isAgg157, Try.underlying157, Try.zeroValue157, by kernel_rfl, by kernel_rfl, by kernel_rfl, by kernel_rfl⟩
def ti158 : TI := ⟨1, false, (TypeDesc.func #[93] #[4] false), Value.nilFunc, 8, false, false, false⟩
theorem tf158 : TF Try.prog 158 ti158 := ⟨Try.sizeOf158, Try.isAgg158, Try.underlying158, Try.zeroValue158, by kernel_rfl, by kernel_rfl, by kernel_rfl, by kernel_rfl⟩
def ti159 : TI := ⟨1, false, (TypeDesc.slice 4), (Value.slice none 0 0), 24, false, false, false⟩
theorem tf159 : TF Try.prog 159 ti159 := ⟨Try.sizeOf159, Try.isAgg159, Try.underlying159, Try.zeroValue159, by kernel_rfl, by kernel_rfl, by kernel_rfl, by kernel_rfl⟩
def ti160 : TI := ⟨1, false, (TypeDesc.func #[22, 139, 40] #[141] false), Value.nilFunc, 8, false, false, false⟩
theorem tf160 : TF Try.prog 160 ti160 := ⟨Try.sizeOf160, Try.isAgg160, Try.underlying160, Try.zeroValue160, by kernel_rfl, by kernel_rfl, by kernel_rfl, by kernel_rfl⟩
def ti161 : TI := ⟨1, false, (TypeDesc.func #[71, 36, 162] #[3, 4] false), Value.nilFunc, 8, false, false, false⟩
theorem tf161 : TF Try.prog 161 ti161 := ⟨Try.sizeOf161, Try.isAgg161, Try.underlying161, Try.zeroValue161, by kernel_rfl, by kernel_rfl, by kernel_rfl, by kernel_rfl⟩
def ti162 : TI := ⟨1, false, (TypeDesc.func #[115, 36] #[3] false), Value.nilFunc, 8, false, false, false⟩
theorem tf162 : TF Try.prog 162 ti162 := ⟨Try.sizeOf162, Try.isAgg162, Try.underlying162, Try.zeroValue162, by kernel_rfl, by kernel_rfl, by kernel_rfl, by kernel_rfl⟩
def ti163 : TI := ⟨1, false, (TypeDesc.func #[22, 3, 3, 118] #[] false), Value.nilFunc, 8, false, false, false⟩
theorem tf163 : TF Try.prog 163 ti163 := ⟨Try.sizeOf163, Try.isAgg163, Try.underlying163, Try.zeroValue163, by kernel_rfl, by kernel_rfl, by kernel_rfl, by kernel_rfl⟩
def ti164 : TI := ⟨1, false, (TypeDesc.int IntKind.i64), (Value.int IntKind.i64 0), 8, false, false, true⟩
theorem tf164 : TF Try.prog 164 ti164 := ⟨Try.sizeOf164, Try.isAgg164, Try.underlying164, Try.zeroValue164, by kernel_rfl, by kernel_rfl, by kernel_rfl, by kernel_rfl⟩
def ti166 : TI := ⟨1, false, (TypeDesc.func #[22, 3, 3, 118] #[3, 164] false), Value.nilFunc, 8, false, false, false⟩
theorem tf166 : TF Try.prog 166 ti166 := ⟨Try.sizeOf166, Try.isAgg166, Try.underlying166, Try.zeroValue166, by kernel_rfl, by kernel_rfl, by kernel_rfl, by kernel_rfl⟩
def ti167 : TI := ⟨1, false, (TypeDesc.func #[22, 3, 3, 118] #[4] false), Value.nilFunc, 8, false, false, false⟩
theorem tf167 : TF Try.prog 167 ti167 := ⟨Try.sizeOf167, Try.isAgg167, Try.underlying167, Try.zeroValue167, by kernel_rfl, by kernel_rfl, by kernel_rfl, by kernel_rfl⟩
def ti168 : TI := ⟨1, false, (TypeDesc.func #[22, 3, 3, 3, 118] #[3] false), Value.nilFunc, 8, false, false, false⟩
theorem tf168 : TF Try.prog 168 ti168 := ⟨Try.sizeOf168, Try.isAgg168, Try.underlying168, Try.zeroValue168, by kernel_rfl, by kernel_rfl, by kernel_rfl, by kernel_rfl⟩
def ti169 : TI := ⟨1, false, (TypeDesc.func #[22, 3, 3, 3, 118] #[3, 4] false), Value.nilFunc, 8, false, false, false⟩
theorem tf169 : TF Try.prog 169 ti169 := ⟨Try.sizeOf169, Try.isAgg169, Try.underlying169, Try.zeroValue169, by kernel_rfl, by kernel_rfl, by kernel_rfl, by kernel_rfl⟩
def ti170 : TI := ⟨1, false, (TypeDesc.func #[36] #[3] false), Value.nilFunc, 8, false, false, false⟩
theorem tf170 : TF Try.prog 170 ti170 := ⟨Try.sizeOf170, Try.isAgg170, Try.underlying170, Try.zeroValue170, by kernel_rfl, by kernel_rfl, by kernel_rfl, by kernel_rfl⟩
def ti171 : TI := ⟨1, false, (TypeDesc.func #[172] #[3] false), Value.nilFunc, 8, false, false, false⟩
theorem tf171 : TF Try.prog 171 ti171 := ⟨Try.sizeOf171, Try.isAgg171, Try.underlying171, Try.zeroValue171, by kernel_rfl, by kernel_rfl, by kernel_rfl, by kernel_rfl⟩
def ti172 : TI := ⟨1, false, (TypeDesc.int IntKind.u64), (Value.int IntKind.u64 0), 8, false, false, true⟩
theorem tf172 : TF Try.prog 172 ti172 := ⟨Try.sizeOf172, Try.isAgg172, Try.underlying172, Try.zeroValue172, by kernel_rfl, by kernel_rfl, by kernel_rfl, by kernel_rfl⟩
def ti173 : TI := ⟨1, false, (TypeDesc.func #[36] #[4] false), Value.nilFunc, 8, false, false, false⟩
theorem tf173 : TF Try.prog 173 ti173 := ⟨Try.sizeOf173, Try.isAgg173, Try.underlying173, Try.zeroValue173, by kernel_rfl, by kernel_rfl, by kernel_rfl, by kernel_rfl⟩
def ti174 : TI := ⟨1, false, (TypeDesc.func #[71, 3] #[] false), Value.nilFunc, 8, false, false, false⟩
theorem tf174 : TF Try.prog 174 ti174 := ⟨Try.sizeOf174, Try.isAgg174, Try.underlying174, Try.zeroValue174, by kernel_rfl, by kernel_rfl, by kernel_rfl, by kernel_rfl⟩
def ti175 : TI := ⟨1, false, (TypeDesc.func #[26, 3, 26] #[26] true), Value.nilFunc, 8, false, false, false⟩
theorem tf175 : TF Try.prog 175 ti175 := ⟨Try.sizeOf175, Try.isAgg175, Try.underlying175, Try.zeroValue175, by kernel_rfl, by kernel_rfl, by kernel_rfl, by kernel_rfl⟩
def ti176 : TI := ⟨1, false, (TypeDesc.func #[26, 26] #[4] false), Value.nilFunc, 8, false, false, false⟩
theorem tf176 : TF Try.prog 176 ti176 := ⟨Try.sizeOf176, Try.isAgg176, Try.underlying176, Try.zeroValue176, by kernel_rfl, by kernel_rfl, by kernel_rfl, by kernel_rfl⟩
def ti177 : TI := ⟨1, false, (TypeDesc.func #[26, 3] #[] false), Value.nilFunc, 8, false, false, false⟩
theorem tf177 : TF Try.prog 177 ti177 := ⟨Try.sizeOf177, Try.isAgg177, Try.underlying177, Try.zeroValue177, by kernel_rfl, by kernel_rfl, by kernel_rfl, by kernel_rfl⟩
def ti178 : TI := ⟨1, false, (TypeDesc.func #[26, 26] #[3] false), Value.nilFunc, 8, false, false, false⟩
theorem tf178 : TF Try.prog 178 ti178 := ⟨Try.sizeOf178, Try.isAgg178, Try.underlying178, Try.zeroValue178, by kernel_rfl, by kernel_rfl, by kernel_rfl, by kernel_rfl⟩
def ti179 : TI := ⟨1, false, (TypeDesc.func #[44] #[4] false), Value.nilFunc, 8, false, false, false⟩
theorem tf179 : TF Try.prog 179 ti179 := ⟨Try.sizeOf179, Try.isAgg179, Try.underlying179, Try.zeroValue179, by kernel_rfl, by kernel_rfl, by kernel_rfl, by kernel_rfl⟩
def ti180 : TI := ⟨1, false, (TypeDesc.func #[29] #[] false), Value.nilFunc, 8, false, false, false⟩
theorem tf180 : TF Try.prog 180 ti180 := ⟨Try.sizeOf180, Try.isAgg180, Try.underlying180, Try.zeroValue180, by kernel_rfl, by kernel_rfl, by kernel_rfl, by kernel_rfl⟩
def ti181 : TI := ⟨1, false, (TypeDesc.func #[22, 139, 38, 38] #[4] false), Value.nilFunc, 8, false, false, false⟩
theorem tf181 : TF Try.prog 181 ti181 := ⟨Try.sizeOf181, Try.isAgg181, Try.underlying181, Try.zeroValue181, by kernel_rfl, by kernel_rfl, by kernel_rfl, by kernel_rfl⟩
def ti182 : TI := ⟨1, false, (TypeDesc.int IntKind.u64), (Value.int IntKind.u64 0), 8, false, false, true⟩
theorem tf182 : TF Try.prog 182 ti182 := ⟨Try.sizeOf182, Try.isAgg182, Try.underlying182, Try.zeroValue182, by kernel_rfl, by kernel_rfl, by kernel_rfl, by kernel_rfl⟩
def ti183 : TI := ⟨1, false, (TypeDesc.func #[3] #[145] false), Value.nilFunc, 8, false, false, false⟩
theorem tf183 : TF Try.prog 183 ti183 := ⟨Try.sizeOf183, Try.isAgg183, Try.underlying183, Try.zeroValue183, by kernel_rfl, by kernel_rfl, by kernel_rfl, by kernel_rfl⟩
def ti184 : TI := ⟨1, false, (TypeDesc.func #[] #[172] false), Value.nilFunc, 8, false, false, false⟩
theorem tf184 : TF Try.prog 184 ti184 := ⟨Try.sizeOf184, Try.isAgg184, Try.underlying184, Try.zeroValue184, by kernel_rfl, by kernel_rfl, by kernel_rfl, by kernel_rfl⟩
def ti185 : TI := ⟨1, false, (TypeDesc.func #[22, 3, 186, 118] #[3] false), Value.nilFunc, 8, false, false, false⟩
theorem tf185 : TF Try.prog 185 ti185 := ⟨Try.sizeOf185, Try.isAgg185, Try.underlying185, Try.zeroValue185, by kernel_rfl, by kernel_rfl, by kernel_rfl, by kernel_rfl⟩
def ti186 : TI := ⟨1, false, (TypeDesc.pointer 3), (Value.pointer none), 8, false, false, true⟩
theorem tf186 : TF Try.prog 186 ti186 := ⟨Try.sizeOf186, Try.isAgg186, Try.underlying186, Try.zeroValue186, by kernel_rfl, by kernel_rfl, by kernel_rfl, by kernel_rfl⟩
def ti187 : TI := ⟨1, false, (TypeDesc.func #[22, 3, 3, 3, 186, 118] #[3] false), Value.nilFunc, 8, false, false, false⟩
theorem tf187 : TF Try.prog 187 ti187 := ⟨Try.sizeOf187, Try.isAgg187, Try.underlying187, Try.zeroValue187, by kernel_rfl, by kernel_rfl, by kernel_rfl, by kernel_rfl⟩
def ti188 : TI := ⟨1, false, (TypeDesc.func #[44] #[] false), Value.nilFunc, 8, false, false, false⟩
theorem tf188 : TF Try.prog 188 ti188 := ⟨Try.sizeOf188, Try.isAgg188, Try.underlying188, Try.zeroValue188, by kernel_rfl, by kernel_rfl, by kernel_rfl, by kernel_rfl⟩
def ti189 : TI := ⟨1, false, (TypeDesc.pointer 100), (Value.pointer none), 8, false, false, true⟩
theorem tf189 : TF Try.prog 189 ti189 := ⟨Try.sizeOf189, Try.isAgg189, Try.underlying189, Try.zeroValue189, by kernel_rfl, by kernel_rfl, by kernel_rfl, by kernel_rfl⟩
def ti190 : TI := ⟨1, false, (TypeDesc.pointer 182), (Value.pointer none), 8, false, false, true⟩
theorem tf190 : TF Try.prog 190 ti190 := ⟨Try.sizeOf190, Try.isAgg190, Try.underlying190, Try.zeroValue190, by kernel_rfl, by kernel_rfl, by kernel_rfl, by kernel_rfl⟩
def ti192 : TI := ⟨1, false, (TypeDesc.func #[22, 3, 3, 186, 118] #[3, 3] false), Value.nilFunc, 8, false, false, false⟩
theorem tf192 : TF Try.prog 192 ti192 := ⟨Try.sizeOf192, Try.isAgg192, Try.underlying192, Try.zeroValue192, by kernel_rfl, by kernel_rfl, by kernel_rfl, by kernel_rfl⟩
def ti193 : TI := ⟨1, false, (TypeDesc.func #[71] #[] false), Value.nilFunc, 8, false, false, false⟩
theorem tf193 : TF Try.prog 193 ti193 := ⟨Try.sizeOf193, Try.isAgg193, Try.underlying193, Try.zeroValue193, by kernel_rfl, by kernel_rfl, by kernel_rfl, by kernel_rfl⟩
def ti194 : TI := ⟨1, false, (TypeDesc.func #[26] #[] false), Value.nilFunc, 8, false, false, false⟩
theorem tf194 : TF Try.prog 194 ti194 := ⟨Try.sizeOf194, Try.isAgg194, Try.underlying194, Try.zeroValue194, by kernel_rfl, by kernel_rfl, by kernel_rfl, by kernel_rfl⟩
def ti200 : TI := ⟨1, false, (TypeDesc.int IntKind.u8), (Value.int IntKind.u8 0), 1, false, false, true⟩
theorem tf200 : TF Try.prog 200 ti200 := ⟨Try.sizeOf200, Try.isAgg200, Try.underlying200, Try.zeroValue200, by kernel_rfl, by kernel_rfl, by kernel_rfl, by kernel_rfl⟩
def ti201 : TI := ⟨1, false, (TypeDesc.int IntKind.u8), (Value.int IntKind.u8 0), 1, false, false, true⟩
theorem tf201 : TF Try.prog 201 ti201 := ⟨Try.sizeOf201, Try.isAgg201, Try.underlying201, Try.zeroValue201, by kernel_rfl, by kernel_rfl, by kernel_rfl, by kernel_rfl⟩
def ti202 : TI := ⟨1, false, (TypeDesc.func #[208, 208] #[4] false), Value.nilFunc, 8, false, false, false⟩
theorem tf202 : TF Try.prog 202 ti202 := ⟨Try.sizeOf202, Try.isAgg202, Try.underlying202, Try.zeroValue202, by kernel_rfl, by kernel_rfl, by kernel_rfl, by kernel_rfl⟩
def ti203 : TI := ⟨1, false, (TypeDesc.pointer 5), (Value.pointer none), 8, false, false, true⟩
theorem tf203 : TF Try.prog 203 ti203 := ⟨Try.sizeOf203, Try.isAgg203, Try.underlying203, Try.zeroValue203, by kernel_rfl, by kernel_rfl, by kernel_rfl, by kernel_rfl⟩
def ti204 : TI := ⟨1, false, (TypeDesc.int IntKind.i32), (Value.int IntKind.i32 0), 4, false, false, true⟩
theorem tf204 : TF Try.prog 204 ti204 := ⟨Try.sizeOf204, Try.isAgg204, Try.underlying204, Try.zeroValue204, by kernel_rfl, by kernel_rfl, by kernel_rfl, by kernel_rfl⟩
def ti205 : TI := ⟨1, false, (TypeDesc.int IntKind.i32), (Value.int IntKind.i32 0), 4, false, false, true⟩
theorem tf205 : TF Try.prog 205 ti205 := ⟨Try.sizeOf205, Try.isAgg205, Try.underlying205, Try.zeroValue205, by kernel_rfl, by kernel_rfl, by kernel_rfl, by kernel_rfl⟩
def tt : TT := [(1, ti1), (2, ti2), (3, ti3), (4, ti4), (5, ti5), (6, ti6), (9, ti9), (10, ti10), (11, ti11), (12, ti12), (15, ti15), (16, ti16), (17, ti17), (20, ti20), (21, ti21), (22, ti22), (23, ti23), (24, ti24), (25, ti25), (26, ti26), (27, ti27), (28, ti28), (29, ti29), (30, ti30), (31, ti31), (32, ti32), (33, ti33), (35, ti35), (36, ti36), (37, ti37), (38, ti38), (39, ti39), (40, ti40), (41, ti41), (42, ti42), (43, ti43), (44, ti44), (45, ti45), (46, ti46), (47, ti47), (48, ti48), (49, ti49), (50, ti50), (51, ti51), (52, ti52), (53, ti53), (54, ti54), (55, ti55), (56, ti56), (57, ti57), (58, ti58), (59, ti59), (60, ti60), (62, ti62), (64, ti64), (66, ti66), (68, ti68), (69, ti69), (70, ti70), (71, ti71), (72, ti72), (73, ti73), (74, ti74), (76, ti76), (77, ti77), (78, ti78), (79, ti79), (80, ti80), (81, ti81), (82, ti82), (84, ti84), (85, ti85), (86, ti86), (87, ti87), (88, ti88), (90, ti90), (91, ti91), (92, ti92), (93, ti93), (94, ti94), (95, ti95), (96, ti96), (97, ti97), (98, ti98), (99, ti99), (100, ti100), (101, ti101), (102, ti102), (104, ti104), (105, ti105), (106, ti106), (107, ti107), (109, ti109), (111, ti111), (112, ti112), (113, ti113), (114, ti114), (115, ti115), (116, ti116), (117, ti117), (118, ti118), (119, ti119), (120, ti120), (121, ti121), (122, ti122), (123, ti123), (124, ti124), (125, ti125), (126, ti126), (127, ti127), (128, ti128), (129, ti129), (130, ti130), (131, ti131), (133, ti133), (134, ti134), (135, ti135), (137, ti137), (138, ti138), (139, ti139), (140, ti140), (141, ti141), (142, ti142), (143, ti143), (144, ti144), (145, ti145), (146, ti146), (147, ti147), (148, ti148), (149, ti149), (150, ti150), (151, ti151), (152, ti152), (153, ti153), (154, ti154), (155, ti155), (156, ti156), (157, ti157), (158, ti158), (159, ti159), (160, ti160), (161, ti161), (162, ti162), (163, ti163), (164, ti164), (166, ti166), (167, ti167), (168, ti168), (169, ti169), (170, ti170), (171, ti171), (172, ti172), (173, ti173), (174, ti174), (175, ti175), (176, ti176), (177, ti177), (178, ti178), (179, ti179), (180, ti180), (181, ti181), (182, ti182), (183, ti183), (184, ti184), (185, ti185), (186, ti186), (187, ti187), (188, ti188), (189, ti189), (190, ti190), (192, ti192), (193, ti193), (194, ti194), (200, ti200), (201, ti201), (202, ti202), (203, ti203), (204, ti204), (205, ti205)]
theorem ttok : TTok Try.prog tt := TTok.cons tf1 (TTok.cons tf2 (TTok.cons tf3 (TTok.cons tf4 (TTok.cons tf5 (TTok.cons tf6 (TTok.cons tf9 (TTok.cons tf10 (TTok.cons tf11 (TTok.cons tf12 (TTok.cons tf15 (TTok.cons tf16 (TTok.cons tf17 (TTok.cons tf20 (TTok.cons tf21 (TTok.cons tf22 (TTok.cons tf23 (TTok.cons tf24 (TTok.cons tf25 (TTok.cons tf26 (TTok.cons tf27 (TTok.cons tf28 (TTok.cons tf29 (TTok.cons tf30 (TTok.cons tf31 (TTok.cons tf32 (TTok.cons tf33 (TTok.cons tf35 (TTok.cons tf36 (TTok.cons tf37 (TTok.cons tf38 (TTok.cons tf39 (TTok.cons tf40 (TTok.cons tf41 (TTok.cons tf42 (TTok.cons tf43 (TTok.cons tf44 (TTok.cons tf45 (TTok.cons tf46 (TTok.cons tf47 (TTok.cons tf48 (TTok.cons tf49 (TTok.cons tf50 (TTok.cons tf51 (TTok.cons tf52 (TTok.cons tf53 (TTok.cons tf54 (TTok.cons tf55 (TTok.cons tf56 (TTok.cons tf57 (TTok.cons tf58 (TTok.cons tf59 (TTok.cons tf60 (TTok.cons tf62 (TTok.cons tf64 (TTok.cons tf66 (TTok.cons tf68 (TTok.cons tf69 (TTok.cons tf70 (TTok.cons tf71 (TTok.cons tf72 (TTok.cons tf73 (TTok.cons tf74 (TTok.cons tf76 (TTok.cons tf77 (TTok.cons tf78 (TTok.cons tf79 (TTok.cons tf80 (TTok.cons tf81 (TTok.cons tf82 (TTok.cons tf84 (TTok.cons tf85 (TTok.cons tf86 (TTok.cons tf87 (TTok.cons tf88 (TTok.cons tf90 (TTok.cons tf91 (TTok.cons tf92 (TTok.cons tf93 (TTok.cons tf94 (TTok.cons tf95 (TTok.cons tf96 (TTok.cons tf97 (TTok.cons tf98 (TTok.cons tf99 (TTok.cons tf100 (TTok.cons tf101 (TTok.cons tf102 (TTok.cons tf104 (TTok.cons tf105 (TTok.cons tf106 (TTok.cons tf107 (TTok.cons tf109 (TTok.cons tf111 (TTok.cons tf112 (TTok.cons tf113 (TTok.cons tf114 (TTok.cons tf115 (TTok.cons tf116 (TTok.cons tf117 (TTok.cons tf118 (TTok.cons tf119 (TTok.cons tf120 (TTok.cons tf121 (TTok.cons tf122 (TTok.cons tf123 (TTok.cons tf124 (TTok.cons tf125 (TTok.cons tf126 (TTok.cons tf127 (TTok.cons tf128 (TTok.cons tf129 (TTok.cons tf130 (TTok.cons tf131 (TTok.cons tf133 (TTok.cons tf134 (TTok.cons tf135 (TTok.cons tf137 (TTok.cons tf138 (TTok.cons tf139 (TTok.cons tf140 (TTok.cons tf141 (TTok.cons tf142 (TTok.cons tf143 (TTok.cons tf144 (TTok.cons tf145 (TTok.cons tf146 (TTok.cons tf147 (TTok.cons tf148 (TTok.cons tf149 (TTok.cons tf150 (TTok.cons tf151 (TTok.cons tf152 (TTok.cons tf153 (TTok.cons tf154 (TTok.cons tf155 (TTok.cons tf156 (TTok.cons tf157 (TTok.cons tf158 (TTok.cons tf159 (TTok.cons tf160 (TTok.cons tf161 (TTok.cons tf162 (TTok.cons tf163 (TTok.cons tf164 (TTok.cons tf166 (TTok.cons tf167 (TTok.cons tf168 (TTok.cons tf169 (TTok.cons tf170 (TTok.cons tf171 (TTok.cons tf172 (TTok.cons tf173 (TTok.cons tf174 (TTok.cons tf175 (TTok.cons tf176 (TTok.cons tf177 (TTok.cons tf178 (TTok.cons tf179 (TTok.cons tf180 (TTok.cons tf181 (TTok.cons tf182 (TTok.cons tf183 (TTok.cons tf184 (TTok.cons tf185 (TTok.cons tf186 (TTok.cons tf187 (TTok.cons tf188 (TTok.cons tf189 (TTok.cons tf190 (TTok.cons tf192 (TTok.cons tf193 (TTok.cons tf194 (TTok.cons tf200 (TTok.cons tf201 (TTok.cons tf202 (TTok.cons tf203 (TTok.cons tf204 (TTok.cons tf205 (TTok.nil)))))))))))))))))))))))))))))))))))))))))))))))))))))))))))))))))))))))))))))))))))))))))))))))))))))))))))))))))))))))))))))))))))))))))))))))))))))))))))))))))))))))))))))))))))
end Go.Eng
/- The functions of the seat. -/
set_option maxRecDepth 100000
namespace Go.Eng
open Go Go.RowKit Go.Proofs
def ft : FL := [(3, some true), (4, some true), (5, some true), (6, some true), (7, some true), (8, some true), (9, some true), (10, some true), (11, some true), (12, some true), (13, some true), (14, some true), (15, some true), (16, some true), (17, some true), (18, some true), (19, some true), (20, some true), (21, some true), (22, some true), (23, some true), (24, some true), (25, some true), (26, some true), (27, some true), (28, some true), (29, some true), (30, some true), (31, some true), (32, some true), (33, some true), (34, some true), (35, some true), (36, some true), (37, some true), (38, some true), (39, some true), (40, some true), (41, some true), (42, some true), (43, some true), (44, some true), (45, some false), (46, some true), (47, some true), (48, some true), (49, some true), (50, some true), (51, some true), (52, some true), (53, some true), (54, some true), (55, some true), (56, some true), (57, some true), (58, some true), (59, some true), (60, some true), (61, some true), (62, some false), (63, some true), (64, some true), (65, some true), (66, some false), (67, some true), (68, some false), (69, some true), (70, some true), (71, some true), (72, some true), (73, some true), (74, some true), (75, some true), (76, some false), (77, some true), (78, some true), (79, some true), (80, some true), (81, some true), (82, some true), (83, none), (84, some false), (85, some true), (86, some true), (87, some true), (88, some true), (89, some false), (90, some true), (91, some true), (92, some true), (93, some false), (94, some false), (95, some true), (96, none), (97, some false), (98, some true), (99, some false), (100, some true), (101, some true), (102, some false), (103, some true), (104, some true), (105, some true), (106, some true), (107, some true), (108, some false), (109, some false), (110, some false), (111, some false), (112, some false), (113, some false), (114, some false), (115, some false), (116, some true), (117, some true), (118, some true), (119, none), (120, some false), (121, some false), (122, some false), (123, none), (124, some false), (125, some true), (126, some true), (127, some true), (128, some true), (129, some false), (130, some true), (131, some true), (132, some false), (133, some false), (134, some false), (135, some true), (136, some false), (137, some false), (138, some true), (139, some true), (155, none)]
theorem ftok : FTok Try.prog ft := FTok.cons Try.func3 (by kernel_rfl) rfl (FTok.cons Try.func4 (by kernel_rfl) rfl (FTok.cons Try.func5 (by kernel_rfl) rfl (FTok.cons Try.func6 (by kernel_rfl) rfl (FTok.cons Try.func7 (by kernel_rfl) rfl (FTok.cons Try.func8 (by kernel_rfl) rfl (FTok.cons Try.func9 (by kernel_rfl) rfl (FTok.cons Try.func10 (by kernel_rfl) rfl (FTok.cons Try.func11 (by kernel_rfl) rfl (FTok.cons Try.func12 (by kernel_rfl) rfl (FTok.cons Try.func13 (by kernel_rfl) rfl (FTok.cons Try.func14 (by kernel_rfl) rfl (FTok.cons Try.func15 (by kernel_rfl) rfl (FTok.cons Try.func16 (by kernel_rfl) rfl (FTok.cons Try.func17 (by kernel_rfl) rfl (FTok.cons Try.func18 (by kernel_rfl) rfl (FTok.cons Try.func19 (by kernel_rfl) rfl (FTok.cons Try.func20 (by kernel_rfl) rfl (FTok.cons Try.func21 (by kernel_rfl) rfl (FTok.cons Try.func22 (by kernel_rfl) rfl (FTok.cons Try.func23 (by kernel_rfl) rfl (FTok.cons Try.func24 (by kernel_rfl) rfl (FTok.cons Try.func25 (by kernel_rfl) rfl (FTok.cons Try.func26 (by kernel_rfl) rfl (FTok.cons Try.func27 (by kernel_rfl) rfl (FTok.cons Try.func28 (by kernel_rfl) rfl (FTok.cons Try.func29 (by kernel_rfl) rfl (FTok.cons Try.func30 (by kernel_rfl) rfl (FTok.cons Try.func31 (by kernel_rfl) rfl (FTok.cons Try.func32 (by kernel_rfl) rfl (FTok.cons Try.func33 (by kernel_rfl) rfl (FTok.cons Try.func34 (by kernel_rfl) rfl (FTok.cons Try.func35 (by kernel_rfl) rfl (FTok.cons Try.func36 (by kernel_rfl) rfl (FTok.cons Try.func37 (by kernel_rfl) rfl (FTok.cons Try.func38 (by kernel_rfl) rfl (FTok.cons Try.func39 (by kernel_rfl) rfl (FTok.cons Try.func40 (by kernel_rfl) rfl (FTok.cons Try.func41 (by kernel_rfl) rfl (FTok.cons Try.func42 (by kernel_rfl) rfl (FTok.cons Try.func43 (by kernel_rfl) rfl (FTok.cons Try.func44 (by kernel_rfl) rfl (FTok.cons Try.func45 (by kernel_rfl) rfl (FTok.cons Try.func46 (by kernel_rfl) rfl (FTok.cons Try.func47 (by kernel_rfl) rfl (FTok.cons Try.func48 (by kernel_rfl) rfl (FTok.cons Try.func49 (by kernel_rfl) rfl (FTok.cons Try.func50 (by kernel_rfl) rfl (FTok.cons Try.func51 (by kernel_rfl) rfl (FTok.cons Try.func52 (by kernel_rfl) rfl (FTok.cons Try.func53 (by kernel_rfl) rfl (FTok.cons Try.func54 (by kernel_rfl) rfl (FTok.cons Try.func55 (by kernel_rfl) rfl (FTok.cons Try.func56 (by kernel_rfl) rfl (FTok.cons Try.func57 (by kernel_rfl) rfl (FTok.cons Try.func58 (by kernel_rfl) rfl (FTok.cons Try.func59 (by kernel_rfl) rfl (FTok.cons Try.func60 (by kernel_rfl) rfl (FTok.cons Try.func61 (by kernel_rfl) rfl (FTok.cons Try.func62 (by kernel_rfl) rfl (FTok.cons Try.func63 (by kernel_rfl) rfl (FTok.cons Try.func64 (by kernel_rfl) rfl (FTok.cons Try.func65 (by kernel_rfl) rfl (FTok.cons Try.func66 (by kernel_rfl) rfl (FTok.cons Try.func67 (by kernel_rfl) rfl (FTok.cons Try.func68 (by kernel_rfl) rfl (FTok.cons Try.func69 (by kernel_rfl) rfl (FTok.cons Try.func70 (by kernel_rfl) rfl (FTok.cons Try.func71 (by kernel_rfl) rfl (FTok.cons Try.func72 (by kernel_rfl) rfl (FTok.cons Try.func73 (by kernel_rfl) rfl (FTok.cons Try.func74 (by kernel_rfl) rfl (FTok.cons Try.func75 (by kernel_rfl) rfl (FTok.cons Try.func76 (by kernel_rfl) rfl (FTok.cons Try.func77 (by kernel_rfl) rfl (FTok.cons Try.func78 (by kernel_rfl) rfl (FTok.cons Try.func79 (by kernel_rfl) rfl (FTok.cons Try.func80 (by kernel_rfl) rfl (FTok.cons Try.func81 (by kernel_rfl) rfl (FTok.cons Try.func82 (by kernel_rfl) rfl (FTok.consX (FTok.cons Try.func84 (by kernel_rfl) rfl (FTok.cons Try.func85 (by kernel_rfl) rfl (FTok.cons Try.func86 (by kernel_rfl) rfl (FTok.cons Try.func87 (by kernel_rfl) rfl (FTok.cons Try.func88 (by kernel_rfl) rfl (FTok.cons Try.func89 (by kernel_rfl) rfl (FTok.cons Try.func90 (by kernel_rfl) rfl (FTok.cons Try.func91 (by kernel_rfl) rfl (FTok.cons Try.func92 (by kernel_rfl) rfl (FTok.cons Try.func93 (by kernel_rfl) rfl (FTok.cons Try.func94 (by kernel_rfl) rfl (FTok.cons Try.func95 (by kernel_rfl) rfl (FTok.consX (FTok.cons Try.func97 (by kernel_rfl) rfl (FTok.cons Try.func98 (by kernel_rfl) rfl (FTok.cons Try.func99 (by kernel_rfl) rfl (FTok.cons Try.func100 (by kernel_rfl) rfl (FTok.cons Try.func101 (by kernel_rfl) rfl (FTok.cons Try.func102 (by kernel_rfl) rfl (FTok.cons Try.func103 (by kernel_rfl) rfl (FTok.cons Try.func104 (by kernel_rfl) rfl (FTok.cons Try.func105 (by kernel_rfl) rfl (FTok.cons Try.func106 (by kernel_rfl) rfl (FTok.cons Try.func107 (by kernel_rfl) rfl (FTok.cons Try.func108 (by kernel_rfl) rfl (FTok.cons Try.func109 (by kernel_rfl) rfl (FTok.cons Try.func110 (by kernel_rfl) rfl (FTok.cons Try.func111 (by kernel_rfl) rfl (FTok.cons Try.func112 (by kernel_rfl) rfl (FTok.cons Try.func113 (by kernel_rfl) rfl (FTok.cons Try.func114 (by kernel_rfl) rfl (FTok.cons Try.func115 (by kernel_rfl) rfl (FTok.cons Try.func116 (by kernel_rfl) rfl (FTok.cons Try.func117 (by kernel_rfl) rfl (FTok.cons Try.func118 (by kernel_rfl) rfl (FTok.consX (FTok.cons Try.func120 (by kernel_rfl) rfl (FTok.cons Try.func121 (by kernel_rfl) rfl (FTok.cons Try.func122 (by kernel_rfl) rfl (FTok.consX (FTok.cons Try.func124 (by kernel_rfl) rfl (FTok.cons Try.func125 (by kernel_rfl) rfl (FTok.cons Try.func126 (by kernel_rfl) rfl (FTok.cons Try.func127 (by kernel_rfl) rfl (FTok.cons Try.func128 (by kernel_rfl) rfl (FTok.cons Try.func129 (by kernel_rfl) rfl (FTok.cons Try.func130 (by kernel_rfl) rfl (FTok.cons Try.func131 (by kernel_rfl) rfl (FTok.cons Try.func132 (by kernel_rfl) rfl (FTok.cons Try.func133 (by kernel_rfl) rfl (FTok.cons Try.func134 (by kernel_rfl) rfl (FTok.cons Try.func135 (by kernel_rfl) rfl (FTok.cons Try.func136 (by kernel_rfl) rfl (FTok.cons Try.func137 (by kernel_rfl) rfl (FTok.cons Try.func138 (by kernel_rfl) rfl (FTok.cons Try.func139 (by kernel_rfl) rfl (FTok.consX (FTok.nil))))))))))))))))))))))))))))))))))))))))))))))))))))))))))))))))))))))))))))))))))))))))))))))))))))))))))))))))))))))))))))))))))))))))))
theorem mixed : Try.prog.follows .mixedOrders = true := by kernel_rfl
end Go.Eng
namespace Go.Eng
open Go
theorem w_u32 (x : Int) : IntKind.u32.wrap x = x % 4294967296 := by unfold IntKind.wrap IntKind.bits IntKind.signed; simp
theorem w_u64 (x : Int) : IntKind.u64.wrap x = x % 18446744073709551616 := by unfold IntKind.wrap IntKind.bits IntKind.signed; simp
theorem w_u16 (x : Int) : IntKind.u16.wrap x = x % 65536 := by unfold IntKind.wrap IntKind.bits IntKind.signed; simp
theorem w_u8 (x : Int) : IntKind.u8.wrap x = x % 256 := by unfold IntKind.wrap IntKind.bits IntKind.signed; simp
theorem w_i64 {x : Int} (h1 : -9223372036854775808 ≤ x) (h2 : x ≤ 9223372036854775807) : IntKind.i64.wrap x = x := by
  unfold IntKind.wrap IntKind.bits IntKind.signed
  simp
  split <;> omega
theorem wf_u32 {n : Int} (h : (Lit.int .u32 n).wf = true) : 0 ≤ n ∧ n ≤ 4294967295 := by
  simp [Lit.wf, IntKind.min, IntKind.max, IntKind.bits, IntKind.signed] at h
  omega
theorem wf_u16 {n : Int} (h : (Lit.int .u16 n).wf = true) : 0 ≤ n ∧ n ≤ 65535 := by
  simp [Lit.wf, IntKind.min, IntKind.max, IntKind.bits, IntKind.signed] at h
  omega
theorem wf_u8 {n : Int} (h : (Lit.int .u8 n).wf = true) : 0 ≤ n ∧ n ≤ 255 := by
  simp [Lit.wf, IntKind.min, IntKind.max, IntKind.bits, IntKind.signed] at h
  omega
theorem wf_u64 {n : Int} (h : (Lit.int .u64 n).wf = true) : 0 ≤ n ∧ n ≤ 18446744073709551615 := by
  simp [Lit.wf, IntKind.min, IntKind.max, IntKind.bits, IntKind.signed] at h
  omega
theorem wf_i64 {n : Int} (h : (Lit.int .i64 n).wf = true) : -9223372036854775808 ≤ n ∧ n ≤ 9223372036854775807 := by
  simp [Lit.wf, IntKind.min, IntKind.max, IntKind.bits, IntKind.signed] at h
  omega
end Go.Eng
set_option linter.unusedVariables false
namespace Go.Eng
open Go Go.RowKit Go.Proofs
abbrev vu (n : Int) : IC := .v (.int .u32 n)
abbrev vi (n : Int) : IC := .v (.int .i64 n)
abbrev vr (n : Int) : IC := .v (.int .i32 n)
abbrev vci (k : IntKind) (n : Int) : AV := .c (.v (.int k n))
abbrev vcb (b : Bool) : AV := .c (.v (.bool b))
abbrev vcs (s : ByteArray) : AV := .c (.v (.string s))
abbrev nilS : AV := .c (.v (.slice none 0 0))
abbrev rns (l : List Int) : AV := .c (.sl 1 l.length (runeF l))
theorem getD_take {α : Type} (l : List α) (n j : Nat) (d : α) (h : j < n) : (l.take n).getD j d = l.getD j d := by simp only [List.getD_eq_getElem?_getD, List.getElem?_take, if_pos h]
theorem getD_drop {α : Type} (l : List α) (i j : Nat) (d : α) : (l.drop i).getD j d = l.getD (i + j) d := by simp only [List.getD_eq_getElem?_getD, List.getElem?_drop]
theorem ti_nat (n : Nat) : (n : Int).toNat = n := Int.toNat_natCast n
/-- An append of one element. -/
theorem app1 {α : Type} {enc : α → List IC} {d : α} {l : List α} {f g : Nat → List IC} {K : Nat → (Nat → List IC) → Prop} (a : α) (hf : ∀ k, k < l.length → f k = enc (l.getD k d)) (hg : g 0 = enc a) (h : K (l ++ [a]).length fun k => enc ((l ++ [a]).getD k d)) :
    ∃ (n' : Nat) (f' : Nat → List IC), n' = l.length + 1 ∧ (∀ k, k < l.length → f' k = f k) ∧ (∀ k, k < 1 → f' (l.length + k) = g k) ∧ K n' f' := by
  refine ⟨_, _, by simp, fun k hk => ?_, fun k hk => ?_, h⟩
  · rw [hf k hk]
    simp [List.getD_eq_getElem?_getD, List.getElem?_append_left hk]
  · obtain rfl : k = 0 := by omega
    rw [hg]
    simp [List.getD_eq_getElem?_getD]
theorem frz_two (i j : Nat) {st st1 st' : St} (h1 : ∀ K : St → Prop, K st1 → frzK st i K) (h2 : ∀ K : St → Prop, K st' → frzK st1 j K) : Weak st st' := (frz_weak i h1).trans (frz_weak j h2)
end Go.Eng
/- Ids as pairs. -/
set_option linter.unusedVariables false
namespace Go.Eng
open Go Go.RowKit Go.Proofs
abbrev I2 := Int × Int
def u32P (a : I2) : Prop := (0 ≤ a.1 ∧ a.1 ≤ 4294967295) ∧ 0 ≤ a.2 ∧ a.2 ≤ 4294967295
abbrev idF (a : I2) : List IC := [vu a.1, vu a.2]
abbrev idA (a : I2) : AV := .agg (idF a)
end Go.Eng
/- Items. -/
set_option linter.unusedVariables false
set_option linter.unusedSimpArgs false
set_option maxRecDepth 100000
set_option maxHeartbeats 4000000
namespace Go.Eng
open Go Go.RowKit Go.Proofs
structure It where
  id : I2
  left : I2
  right : I2
  ch : Int
def it0 : It := ⟨(0, 0), (0, 0), (0, 0), 0⟩
abbrev itF (x : It) : List IC := [vu x.id.1, vu x.id.2, vu x.left.1, vu x.left.2, vu x.right.1, vu x.right.2, vr x.ch]
abbrev itS (l : List It) : AV := .c (.sl 7 l.length fun k => itF (l.getD k it0))
def itOk (x : It) : Prop := u32P x.id ∧ u32P x.left ∧ u32P x.right
theorem it_ext {x y : It} (h1 : x.id.1 = y.id.1) (h2 : x.id.2 = y.id.2) (h3 : x.left.1 = y.left.1) (h4 : x.left.2 = y.left.2) (h5 : x.right.1 = y.right.1) (h6 : x.right.2 = y.right.2) (h7 : x.ch = y.ch) : x = y := by
  obtain ⟨⟨a, b⟩, ⟨c, d⟩, ⟨e, f⟩, g⟩ := x
  obtain ⟨⟨a', b'⟩, ⟨c', d'⟩, ⟨e', f'⟩, g'⟩ := y
  simp only at h1 h2 h3 h4 h5 h6 h7
  rw [h1, h2, h3, h4, h5, h6, h7]
theorem list_eq {α : Type} (d : α) {a b : List α} (hl : a.length = b.length) (h : ∀ j, j < a.length → a.getD j d = b.getD j d) : a = b := by
  refine List.ext_getElem hl (fun j h1 h2 => ?_)
  have := h j h1
  rw [List.getD_eq_getElem?_getD, List.getD_eq_getElem?_getD, List.getElem?_eq_getElem h1, List.getElem?_eq_getElem h2] at this
  exact this
def siI (a b : List It) (n : Nat) (st : St) : Prop := ∃ k : Nat, n = a.length - k ∧ k ≤ a.length ∧ (∀ j, j < k → a.getD j it0 = b.getD j it0) ∧ st = ⟨26, 0, [(0, itS a), (1, itS b), (5, vci .i64 (k : Int))], []⟩
theorem sameit_c (a b : List It) (ha : a.length ≤ 1000000) (hb : b.length ≤ 1000000) : CallV Try.prog 34 [itS a, itS b] [] (fun r own' => own' = [] ∧ ((a = b ∧ r = vcb true) ∨ (a ≠ b ∧ r = vcb false))) := by
  refine callV_pure Try.func34 rfl ttok ftok rfl rfl rfl (Nat.le_of_ble_eq_true rfl) ?_
  conv => whnf
  by_cases hl : a.length = b.length
  · rw [show (((a.length : Nat) : Int) != (b.length : Nat)) = false from by rw [hl]; exact bne_self_eq_false _]
    conv => whnf
    refine loopV ttok ftok (siI a b) (env_weak [0, 1, 5] rfl) ⟨0, rfl, Nat.zero_le _, fun j hj => by omega, rfl⟩ ?_
    rintro n st ⟨k, rfl, hk, hj, rfl⟩
    conv => whnf
    refine onB_intro (fun h => ?_) (fun h => ?_)
    · have h := of_decide_eq_true h
      have hk2 : k < a.length := by omega
      conv => whnf
      refine drawV_join mixed (by kernel_rfl) ttok ?_
      conv => whnf
      refine ⟨⟨by omega, by omega⟩, ?_⟩
      conv => whnf
      refine ⟨⟨by omega, by omega⟩, ?_⟩
      conv => whnf
      simp only [ti_nat]
      refine onB_intro (fun g => ?_) (fun g => ?_)
      · conv => whnf
        refine .inr ⟨fun e => ?_, rfl⟩
        subst e
        simp at g
      · have e : a.getD k it0 = b.getD k it0 := by
          simp [- List.getD_eq_getElem?_getD] at g
          obtain ⟨⟨q1, q2⟩, ⟨q3, q4⟩, ⟨q5, q6⟩, q7⟩ := g
          exact it_ext q1 q2 q3 q4 q5 q6 q7
        conv => whnf
        rw [show IntKind.i64.wrap ((k : Int) + 1) = ((k + 1 : Nat) : Int) from by rw [w_i64 (by omega) (by omega)]; omega]
        refine ⟨a.length - (k + 1), _, by omega, env_weak [0, 1, 5] rfl, k + 1, rfl, by omega, fun j h2 => ?_, rfl⟩
        rcases Nat.lt_succ_iff_lt_or_eq.1 h2 with h3 | rfl
        · exact hj j h3
        · exact e
    · have h := of_decide_eq_false h
      conv => whnf
      exact .inl ⟨list_eq it0 hl (fun j h2 => hj j (by omega)), rfl⟩
  · rw [show (((a.length : Nat) : Int) != (b.length : Nat)) = true from bne_iff_ne.2 (fun e => hl (by omega))]
    conv => whnf
    exact .inr ⟨fun e => hl (by rw [e]), rfl⟩
end Go.Eng
/- Vectors, as lists: what the reference's functions come to, and how they stand to each other. -/
namespace Go.Eng
abbrev CV := List (Int × Int)
def srt (l : CV) : Prop := l.Pairwise (fun a b => a.1 < b.1)
def mayV (l : CV) : Prop := srt l ∧ ∀ x ∈ l, 0 < x.1 ∧ 0 < x.2
def nxt (l : CV) (c : Int) : Int := match l.find? (fun x => x.1 == c) with | some x => x.2 | none => 0
def rset (c n : Int) : CV → Bool → CV
  | [], put => if put then [] else [(c, n)]
  | x :: r, put => (if !put && decide (c ≤ x.1) then [(c, n)] else []) ++ ((if x.1 = c then [] else [x]) ++ rset c n r (put || decide (c ≤ x.1)))
def setR (l : CV) (c n : Int) : CV := if c = 0 then l else rset c n l (n == 0)
def mergeR (a b : CV) : CV := b.foldl (fun out x => setR out x.1 (max x.2 (nxt out x.1))) a
def coversR (a b : CV) : Bool := b.all (fun x => !decide (nxt a x.1 < x.2))
theorem rset_pre (c n : Int) (post : CV) (put : Bool) : ∀ pre : CV, (∀ x ∈ pre, x.1 < c) → rset c n (pre ++ post) put = pre ++ rset c n post put
  | [], _ => rfl
  | x :: r, h => by
    have hx := h x (by simp)
    have h1 : decide (c ≤ x.1) = false := decide_eq_false (by omega)
    have h2 : ¬ x.1 = c := by omega
    rw [List.cons_append, rset, h1, if_neg h2]
    simp only [Bool.and_false, Bool.or_false]
    rw [rset_pre c n post put r (fun y hy => h y (by simp [hy]))]
    simp
theorem rset_tail (c n : Int) : ∀ post : CV, (∀ x ∈ post, c < x.1) → rset c n post true = post
  | [], _ => rfl
  | x :: r, h => by
    have hx := h x (by simp)
    rw [rset, if_neg (show ¬ x.1 = c by omega)]
    simp only [Bool.not_true, Bool.false_and, Bool.true_or]
    rw [rset_tail c n r (fun y hy => h y (by simp [hy]))]
    simp
theorem rset_hit (c n : Int) (x : Int × Int) (r : CV) (put : Bool) (hx : x.1 = c) (h : ∀ y ∈ r, c < y.1) : rset c n (x :: r) put = (if put then [] else [(c, n)]) ++ r := by
  have h1 : decide (c ≤ x.1) = true := decide_eq_true (by omega)
  rw [rset, h1, if_pos hx]
  simp only [Bool.and_true, Bool.or_true]
  rw [rset_tail c n r h]
  cases put <;> simp
theorem rset_miss (c n : Int) (put : Bool) : ∀ post : CV, (∀ x ∈ post, c < x.1) → rset c n post put = (if put then [] else [(c, n)]) ++ post
  | [], _ => by rw [rset]; simp
  | x :: r, h => by
    have hx := h x (by simp)
    have h1 : decide (c ≤ x.1) = true := decide_eq_true (by omega)
    rw [rset, h1, if_neg (show ¬ x.1 = c by omega)]
    simp only [Bool.and_true, Bool.or_true]
    rw [rset_tail c n r (fun y hy => h y (by simp [hy]))]
    cases put <;> simp
/-- Where a client stands, or would: all ahead are less, all from there on are not. -/
structure At (l : CV) (c : Int) (i : Nat) : Prop where
  le : i ≤ l.length
  lt : ∀ j, j < i → (l.getD j (0, 0)).1 < c
  ge : ∀ j, i ≤ j → j < l.length → c ≤ (l.getD j (0, 0)).1
theorem getD_mem {α : Type} {l : List α} {j : Nat} {d : α} (h : j < l.length) : l.getD j d ∈ l := by
  rw [List.getD_eq_getElem?_getD, List.getElem?_eq_getElem h]; exact List.getElem_mem h
theorem mem_getD {α : Type} {l : List α} {x d : α} (h : x ∈ l) : ∃ j, j < l.length ∧ l.getD j d = x := by
  obtain ⟨j, hj, e⟩ := List.getElem_of_mem h
  exact ⟨j, hj, by rw [List.getD_eq_getElem?_getD, List.getElem?_eq_getElem hj]; exact e⟩
theorem At.pre {l : CV} {c : Int} {i : Nat} (h : At l c i) : ∀ x ∈ l.take i, x.1 < c := fun x hx => by
  obtain ⟨j, hj, rfl⟩ := mem_getD (d := (0, 0)) hx
  rw [List.length_take] at hj
  rw [List.getD_eq_getElem?_getD, List.getElem?_take, if_pos (by omega), ← List.getD_eq_getElem?_getD]
  exact h.lt j (by omega)
theorem At.post {l : CV} {c : Int} {i : Nat} (h : At l c i) : ∀ x ∈ l.drop i, c ≤ x.1 := fun x hx => by
  obtain ⟨j, hj, rfl⟩ := mem_getD (d := (0, 0)) hx
  rw [List.length_drop] at hj
  rw [List.getD_eq_getElem?_getD, List.getElem?_drop, ← List.getD_eq_getElem?_getD]
  exact h.ge _ (by omega) (by omega)
theorem srt_get {l : CV} (hs : srt l) {i j : Nat} (hij : i < j) (hj : j < l.length) : (l.getD i (0, 0)).1 < (l.getD j (0, 0)).1 := by
  have := List.pairwise_iff_getElem.1 hs i j (by omega) hj hij
  rw [List.getD_eq_getElem?_getD, List.getElem?_eq_getElem (by omega), List.getD_eq_getElem?_getD, List.getElem?_eq_getElem hj]
  exact this
/-- Out of the search: neighbours tell all, where it is sorted. -/
theorem At.of {l : CV} (hs : srt l) {c : Int} {i : Nat} (hi : i ≤ l.length) (h1 : i = 0 ∨ (l.getD (i - 1) (0, 0)).1 < c) (h2 : i = l.length ∨ c ≤ (l.getD i (0, 0)).1) : At l c i := by
  refine ⟨hi, fun j hj => ?_, fun j hj hl => ?_⟩
  · rcases h1 with h1 | h1
    · omega
    · rcases Nat.lt_or_ge j (i - 1) with h3 | h3
      · have := srt_get hs h3 (by omega); omega
      · obtain rfl : j = i - 1 := by omega
        exact h1
  · rcases h2 with h2 | h2
    · omega
    · rcases Nat.lt_or_ge i j with h3 | h3
      · have := srt_get hs h3 hl; omega
      · obtain rfl : i = j := by omega
        exact h2
theorem drop_getD {α : Type} {l : List α} {i : Nat} {d : α} (h : i < l.length) : l.drop i = l.getD i d :: l.drop (i + 1) := by
  rw [List.drop_eq_getElem_cons h, List.getD_eq_getElem?_getD, List.getElem?_eq_getElem h]; rfl
theorem At.post_lt {l : CV} (hs : srt l) {c : Int} {i : Nat} (h : At l c i) (hi : i < l.length) : ∀ y ∈ l.drop (i + 1), c < y.1 := fun y hy => by
  obtain ⟨j, hj, rfl⟩ := mem_getD (d := (0, 0)) hy
  rw [List.length_drop] at hj
  rw [List.getD_eq_getElem?_getD, List.getElem?_drop, ← List.getD_eq_getElem?_getD]
  have h1 := h.ge i (Nat.le_refl _) hi
  have h2 := srt_get hs (show i < i + 1 + j by omega) (by omega)
  omega
theorem find_none {l : CV} {c : Int} (h : ∀ x ∈ l, x.1 ≠ c) : l.find? (fun x => x.1 == c) = none := by
  rw [List.find?_eq_none]
  intro x hx e
  exact h x hx (by simpa using e)
theorem nxt_hit {l : CV} {c : Int} {i : Nat} (h : At l c i) (hi : i < l.length) (hc : (l.getD i (0, 0)).1 = c) : nxt l c = (l.getD i (0, 0)).2 := by
  unfold nxt
  have e := List.take_append_drop i l
  rw [← e, List.find?_append, find_none (fun x hx => by have := h.pre x hx; omega), e, drop_getD (d := (0, 0)) hi, List.find?_cons_of_pos (by rw [hc]; exact beq_self_eq_true c)]
  rfl
theorem nxt_miss {l : CV} (hs : srt l) {c : Int} {i : Nat} (h : At l c i) (hn : ¬ (i < l.length ∧ (l.getD i (0, 0)).1 = c)) : nxt l c = 0 := by
  unfold nxt
  rw [find_none]
  intro x hx e
  obtain ⟨j, hj, rfl⟩ := mem_getD (d := (0, 0)) hx
  have h1 : i ≤ j := by
    rcases Nat.lt_or_ge j i with h2 | h2
    · have := h.lt j h2; omega
    · exact h2
  rcases Nat.lt_or_ge i j with h2 | h2
  · have := srt_get hs h2 hj
    have := h.ge i (Nat.le_refl _) (by omega)
    omega
  · obtain rfl : i = j := by omega
    exact hn ⟨hj, e⟩
theorem setR_hit {l : CV} (hs : srt l) {c n : Int} {i : Nat} (h : At l c i) (hc : c ≠ 0) (hi : i < l.length) (he : (l.getD i (0, 0)).1 = c) : setR l c n = l.take i ++ (if n = 0 then [] else [(c, n)]) ++ l.drop (i + 1) := by
  unfold setR
  rw [if_neg hc]
  have e := List.take_append_drop i l
  have h4 := rset_pre c n (l.drop i) (n == 0) (l.take i) h.pre
  rw [e] at h4
  rw [h4, drop_getD (d := (0, 0)) hi, rset_hit c n _ _ _ he (h.post_lt hs hi)]
  by_cases hn : n = 0 <;> simp [hn]
theorem setR_miss {l : CV} (hs : srt l) {c n : Int} {i : Nat} (h : At l c i) (hc : c ≠ 0) (hn : ¬ (i < l.length ∧ (l.getD i (0, 0)).1 = c)) : setR l c n = l.take i ++ (if n = 0 then [] else [(c, n)]) ++ l.drop i := by
  have hp : ∀ x ∈ l.drop i, c < x.1 := fun x hx => by
    rcases Nat.lt_or_ge i l.length with hi | hi
    · rw [drop_getD (d := (0, 0)) hi] at hx
      rcases List.mem_cons.1 hx with rfl | hx
      · have := h.ge i (Nat.le_refl _) hi
        have h3 : ¬ (l.getD i (0, 0)).1 = c := fun e => hn ⟨hi, e⟩
        omega
      · exact h.post_lt hs hi x hx
    · rw [List.drop_eq_nil_of_le hi] at hx; cases hx
  unfold setR
  rw [if_neg hc]
  have e := List.take_append_drop i l
  have h4 := rset_pre c n (l.drop i) (n == 0) (l.take i) h.pre
  rw [e] at h4
  rw [h4, rset_miss c n _ _ hp]
  by_cases h5 : n = 0 <;> simp [h5]
/-- There is such a place. -/
theorem at_ex {l : CV} (hs : srt l) (c : Int) : ∃ i, At l c i := by
  induction l with
  | nil => exact ⟨0, Nat.le_refl _, fun j hj => by omega, fun j _ hj => by simp at hj⟩
  | cons x r ih =>
    have hs' : srt r := (List.pairwise_cons.1 hs).2
    by_cases hx : x.1 < c
    · obtain ⟨i, h⟩ := ih hs'
      refine ⟨i + 1, by simp; exact h.le, fun j hj => ?_, fun j hj hl => ?_⟩
      · cases j with
        | zero => simpa using hx
        | succ j => simpa using h.lt j (by omega)
      · obtain ⟨k, rfl⟩ : ∃ k, j = k + 1 := ⟨j - 1, by omega⟩
        simpa using h.ge k (by omega) (by simpa using hl)
    · refine ⟨0, Nat.zero_le _, fun j hj => by omega, fun j _ hl => ?_⟩
      cases j with
      | zero => simp; omega
      | succ j =>
        have := srt_get hs (show 0 < j + 1 by omega) hl
        simp at this ⊢
        omega
theorem nxt_of {l : CV} (hs : srt l) {x : Int × Int} (hx : x ∈ l) : nxt l x.1 = x.2 := by
  obtain ⟨j, hj, rfl⟩ := mem_getD (d := (0, 0)) hx
  exact nxt_hit (i := j) ⟨by omega, fun k hk => srt_get hs hk hj, fun k hk hl => by
    rcases Nat.lt_or_ge j k with h | h
    · have := srt_get hs h hl; omega
    · obtain rfl : j = k := by omega
      exact Int.le_refl _⟩ hj rfl
theorem nxt_mem {l : CV} {c : Int} (h : nxt l c ≠ 0) : (c, nxt l c) ∈ l := by
  unfold nxt at h ⊢
  cases e : l.find? (fun x => x.1 == c) with
  | none => rw [e] at h; exact absurd rfl h
  | some x =>
    have h1 := List.find?_some e
    have h2 := List.mem_of_find?_eq_some e
    have h1 : x.1 = c := by simpa using h1
    simp only
    rw [← h1]
    exact h2
theorem nxt_pos {l : CV} (hm : mayV l) (c : Int) : 0 ≤ nxt l c := by
  by_cases h : nxt l c = 0
  · omega
  · have := hm.2 _ (nxt_mem h); simp at this; omega
/-- Sorted lists of the same elements. -/
theorem srt_ext : ∀ {a b : CV}, srt a → srt b → (∀ x, x ∈ a ↔ x ∈ b) → a = b
  | [], [], _, _, _ => rfl
  | [], y :: s, _, _, h => by have := (h y).2 (by simp); cases this
  | x :: r, [], _, _, h => by have := (h x).1 (by simp); cases this
  | x :: r, y :: s, ha, hb, h => by
    have ha' := List.pairwise_cons.1 ha
    have hb' := List.pairwise_cons.1 hb
    have exy : x = y := by
      rcases List.mem_cons.1 ((h x).1 (by simp)) with e | e
      · exact e
      · rcases List.mem_cons.1 ((h y).2 (by simp)) with e2 | e2
        · exact e2.symm
        · have := hb'.1 x e; have := ha'.1 y e2; omega
    subst exy
    have : r = s := srt_ext ha'.2 hb'.2 (fun z => by
      constructor
      · intro hz
        rcases List.mem_cons.1 ((h z).1 (by simp [hz])) with e | e
        · subst e; have := ha'.1 z hz; omega
        · exact e
      · intro hz
        rcases List.mem_cons.1 ((h z).2 (by simp [hz])) with e | e
        · subst e; have := hb'.1 z hz; omega
        · exact e)
    rw [this]
theorem may_ext {a b : CV} (ha : mayV a) (hb : mayV b) (h : ∀ c, nxt a c = nxt b c) : a = b := by
  refine srt_ext ha.1 hb.1 (fun x => ⟨fun hx => ?_, fun hx => ?_⟩)
  · have h1 := nxt_of ha.1 hx
    rw [h] at h1
    have h2 := (ha.2 x hx).2
    have := nxt_mem (l := b) (c := x.1) (by omega)
    rw [h1] at this; exact this
  · have h1 := nxt_of hb.1 hx
    rw [← h] at h1
    have h2 := (hb.2 x hx).2
    have := nxt_mem (l := a) (c := x.1) (by omega)
    rw [h1] at this; exact this
theorem setR_mem {l : CV} (hs : srt l) {c n : Int} (hc : c ≠ 0) (x : Int × Int) : x ∈ setR l c n ↔ (x = (c, n) ∧ n ≠ 0) ∨ (x ∈ l ∧ x.1 ≠ c) := by
  obtain ⟨i, h⟩ := at_ex hs c
  have e : l = l.take i ++ l.drop i := (List.take_append_drop i l).symm
  by_cases hh : i < l.length ∧ (l.getD i (0, 0)).1 = c
  · rw [setR_hit hs h hc hh.1 hh.2]
    have e2 : l = l.take i ++ l.getD i (0, 0) :: l.drop (i + 1) := by rw [← drop_getD hh.1]; exact e
    have h1 : x ∈ l ↔ x ∈ l.take i ∨ x = l.getD i (0, 0) ∨ x ∈ l.drop (i + 1) := by
      constructor
      · intro hx; rw [e2] at hx; simpa using hx
      · intro hx; rw [e2]; simpa using hx
    rw [h1]
    have hpre := h.pre x
    have hpost := h.post_lt hs hh.1 x
    simp only [List.mem_append]
    constructor
    · rintro ((hx | hx) | hx)
      · have := hpre hx; exact .inr ⟨.inl hx, by omega⟩
      · split at hx
        · cases hx
        · rename_i hn; exact .inl ⟨by simpa using hx, hn⟩
      · have := hpost hx; exact .inr ⟨.inr (.inr hx), by omega⟩
    · rintro (⟨hx, hn⟩ | ⟨hx | hx | hx, hne⟩)
      · exact .inl (.inr (by rw [if_neg hn]; simp [hx]))
      · exact .inl (.inl hx)
      · rw [hx] at hne; exact absurd hh.2 hne
      · exact .inr hx
  · rw [setR_miss hs h hc hh]
    have h1 : x ∈ l ↔ x ∈ l.take i ∨ x ∈ l.drop i := by
      constructor
      · intro hx; rw [e] at hx; exact List.mem_append.1 hx
      · intro hx; rw [e]; exact List.mem_append.2 hx
    have hne : x ∈ l → x.1 ≠ c := fun hx e3 => by
      have h5 := nxt_miss hs h hh
      obtain ⟨j, hj, rfl⟩ := mem_getD (d := (0, 0)) hx
      rcases Nat.lt_or_ge j i with h2 | h2
      · have := h.lt j h2; omega
      · rcases Nat.lt_or_ge i j with h3 | h3
        · have := srt_get hs h3 hj
          have := h.ge i (Nat.le_refl _) (by omega)
          omega
        · obtain rfl : i = j := by omega
          exact hh ⟨hj, e3⟩
    simp only [List.mem_append]
    constructor
    · rintro ((hx | hx) | hx)
      · exact .inr ⟨h1.2 (.inl hx), hne (h1.2 (.inl hx))⟩
      · split at hx
        · cases hx
        · rename_i hn; exact .inl ⟨by simpa using hx, hn⟩
      · exact .inr ⟨h1.2 (.inr hx), hne (h1.2 (.inr hx))⟩
    · rintro (⟨hx, hn⟩ | ⟨hx, _⟩)
      · exact .inl (.inr (by rw [if_neg hn]; simp [hx]))
      · rcases h1.1 hx with hx | hx
        · exact .inl (.inl hx)
        · exact .inr hx
theorem setR_srt {l : CV} (hs : srt l) (c n : Int) : srt (setR l c n) := by
  by_cases hc : c = 0
  · unfold setR; rw [if_pos hc]; exact hs
  obtain ⟨i, h⟩ := at_ex hs c
  have ht : srt (l.take i) := hs.sublist (List.take_sublist i l)
  have hd : ∀ k, srt (l.drop k) := fun k => hs.sublist (List.drop_sublist k l)
  have mk : ∀ k, (∀ y ∈ l.drop k, c < y.1) → srt (l.take i ++ (if n = 0 then [] else [(c, n)]) ++ l.drop k) := fun k hk => by
    unfold srt at *
    rw [List.pairwise_append, List.pairwise_append]
    refine ⟨⟨ht, by split <;> simp, fun a ha b hb => ?_⟩, hd k, fun a ha b hb => ?_⟩
    · split at hb
      · cases hb
      · have : b = (c, n) := by simpa using hb
        rw [this]; exact h.pre a ha
    · have := hk b hb
      rcases List.mem_append.1 ha with ha | ha
      · have := h.pre a ha; omega
      · split at ha
        · cases ha
        · have e : a = (c, n) := by simpa using ha
          rw [e]; exact this
  by_cases hh : i < l.length ∧ (l.getD i (0, 0)).1 = c
  · rw [setR_hit hs h hc hh.1 hh.2]; exact mk _ (h.post_lt hs hh.1)
  · rw [setR_miss hs h hc hh]
    refine mk _ (fun y hy => ?_)
    rcases Nat.lt_or_ge i l.length with hi | hi
    · rw [drop_getD (d := (0, 0)) hi] at hy
      rcases List.mem_cons.1 hy with rfl | hy
      · have := h.ge i (Nat.le_refl _) hi
        have h3 : ¬ (l.getD i (0, 0)).1 = c := fun e => hh ⟨hi, e⟩
        omega
      · exact h.post_lt hs hi y hy
    · rw [List.drop_eq_nil_of_le hi] at hy; cases hy
theorem setR_may {l : CV} (hm : mayV l) {c n : Int} (hc : 0 ≤ c) (hn : 0 ≤ n) : mayV (setR l c n) := by
  by_cases h0 : c = 0
  · unfold setR; rw [if_pos h0]; exact hm
  refine ⟨setR_srt hm.1 c n, fun x hx => ?_⟩
  rcases (setR_mem hm.1 h0 x).1 hx with ⟨rfl, h⟩ | ⟨h, _⟩
  · exact ⟨by show 0 < c; omega, by show 0 < n; omega⟩
  · exact hm.2 x h
theorem nxt_iff {l : CV} (hs : srt l) {c n : Int} (hn : n ≠ 0) : nxt l c = n ↔ (c, n) ∈ l := by
  constructor
  · intro h; have := nxt_mem (l := l) (c := c) (by rw [h]; exact hn); rw [h] at this; exact this
  · intro h; exact nxt_of hs h
theorem nxt_set {l : CV} (hm : mayV l) {c n : Int} (hc : c ≠ 0) (d : Int) : nxt (setR l c n) d = if d = c then n else nxt l d := by
  have hs2 := setR_srt hm.1 c n
  split
  · rename_i e
    subst e
    by_cases hn : n = 0
    · subst hn
      by_cases h0 : nxt (setR l d 0) d = 0
      · exact h0
      · have := nxt_mem h0
        rcases (setR_mem hm.1 hc _).1 this with ⟨_, h⟩ | ⟨_, h⟩
        · exact absurd rfl h
        · exact absurd rfl h
    · exact (nxt_iff hs2 hn).2 ((setR_mem hm.1 hc _).2 (.inl ⟨rfl, hn⟩))
  · rename_i e
    by_cases h0 : nxt l d = 0
    · by_cases h1 : nxt (setR l c n) d = 0
      · rw [h0, h1]
      · have := nxt_mem h1
        rcases (setR_mem hm.1 hc _).1 this with ⟨h, _⟩ | ⟨h, _⟩
        · exact absurd (congrArg Prod.fst h) e
        · have := nxt_of hm.1 h; simp only at this; omega
    · exact (nxt_iff hs2 h0).2 ((setR_mem hm.1 hc _).2 (.inr ⟨nxt_mem h0, e⟩))
theorem setR_same {l : CV} (hm : mayV l) {c : Int} (hc : c ≠ 0) (h0 : 0 ≤ c) : setR l c (nxt l c) = l := by
  refine may_ext (setR_may hm h0 (nxt_pos hm c)) hm (fun d => ?_)
  rw [nxt_set hm hc]
  split
  · rename_i e; rw [e]
  · rfl
theorem merge_inv (a : CV) (ha : mayV a) : ∀ (p : CV), (∀ x ∈ p, 0 < x.1 ∧ 0 < x.2) → mayV (mergeR a p) := by
  intro p
  induction p generalizing a with
  | nil => intro _; exact ha
  | cons x r ih =>
    intro h
    have hx := h x (by simp)
    exact ih (setR a x.1 (max x.2 (nxt a x.1))) (setR_may ha (by omega) (by omega)) (fun y hy => h y (by simp [hy]))
theorem nxt_merge : ∀ (b a : CV), mayV a → mayV b → ∀ c, nxt (mergeR a b) c = max (nxt a c) (nxt b c)
  | [], a, ha, _, c => by
    have := nxt_pos ha c
    show nxt a c = max (nxt a c) 0
    omega
  | x :: r, a, ha, hb, c => by
    have hx := hb.2 x (by simp)
    have hb' : mayV r := ⟨(List.pairwise_cons.1 hb.1).2, fun y hy => hb.2 y (by simp [hy])⟩
    have hgt := (List.pairwise_cons.1 hb.1).1
    have ha' : mayV (setR a x.1 (max x.2 (nxt a x.1))) := setR_may ha (by omega) (by omega)
    show nxt (mergeR (setR a x.1 (max x.2 (nxt a x.1))) r) c = _
    rw [nxt_merge r _ ha' hb' c, nxt_set ha (by omega)]
    have hn : nxt (x :: r) c = if c = x.1 then x.2 else nxt r c := by
      unfold nxt
      by_cases e : x.1 = c
      · rw [List.find?_cons_of_pos (by simp [e]), if_pos e.symm]
      · rw [List.find?_cons_of_neg (by simp [e]), if_neg (fun h => e h.symm)]
    rw [hn]
    split
    · rename_i e
      have hr : nxt r c = 0 := by
        by_cases h0 : nxt r c = 0
        · exact h0
        · have := hgt _ (nxt_mem h0); simp only at this; omega
      rw [hr, ← e]
      have := nxt_pos ha c
      omega
    · rfl
theorem covers_iff {a b : CV} (ha : mayV a) (hb : mayV b) : coversR a b = true ↔ ∀ c, nxt b c ≤ nxt a c := by
  unfold coversR
  rw [List.all_eq_true]
  constructor
  · intro h c
    by_cases h0 : nxt b c = 0
    · have := nxt_pos ha c; omega
    · have := h _ (nxt_mem h0)
      simp at this
      omega
  · intro h x hx
    have h1 := h x.1
    rw [nxt_of hb.1 hx] at h1
    simp
    omega
end Go.Eng
/- Items that wait: which come; they come in whatever order. -/
set_option linter.unusedVariables false
set_option linter.unusedSimpArgs false
namespace Go.Eng
def hasR (v : CV) (a : I2) : Bool := a.1 == 0 || decide (a.2 < nxt v a.1)
def rdyR (v : CV) (x : It) : Bool := x.id.2 == nxt v x.id.1 && (hasR v x.left && hasR v x.right)
def putR (v : CV) (x : It) : CV := setR v x.id.1 (x.id.2 + 1)
def delA (l : List It) (k : Nat) : List It := l.take k ++ l.drop (k + 1)
/-- Which come, what is left, the vector then. -/
def takeL : Nat → CV → List It → List It × List It × CV
  | 0, v, r => ([], r, v)
  | n + 1, v, r => match r.findIdx? (rdyR v) with
    | none => ([], r, v)
    | some k => (r.getD k it0 :: (takeL n (putR v (r.getD k it0)) (delA r k)).1, (takeL n (putR v (r.getD k it0)) (delA r k)).2)
/-- As they may be handed in. -/
structure wtOk (v : CV) (l : List It) : Prop where
  cl : ∀ x, x ∈ l → 0 < x.id.1 ∧ 0 ≤ x.id.2 ∧ x.id.2 ≤ 4294967294
  ge : ∀ x, x ∈ l → nxt v x.id.1 ≤ x.id.2
  nd : l.Pairwise fun x y => x.id ≠ y.id
/-- They are taken, one behind the other. -/
def Tk : CV → List It → CV → Prop
  | v, [], w => w = v
  | v, x :: T, w => rdyR v x = true ∧ Tk (putR v x) T w
theorem putR_may {v : CV} {x : It} (hv : mayV v) (h : 0 < x.id.1 ∧ 0 ≤ x.id.2 ∧ x.id.2 ≤ 4294967294) : mayV (putR v x) := setR_may hv (by omega) (by omega)
theorem nxt_put {v : CV} {x : It} (hv : mayV v) (h : 0 < x.id.1) (c : Int) : nxt (putR v x) c = if c = x.id.1 then x.id.2 + 1 else nxt v c := nxt_set hv (by omega) c
theorem rdy_id {v : CV} {x : It} (h : rdyR v x = true) : x.id.2 = nxt v x.id.1 := by
  unfold rdyR at h
  simp only [Bool.and_eq_true, beq_iff_eq] at h
  exact h.1
theorem has_mono {v w : CV} (h : ∀ c, nxt v c ≤ nxt w c) {a : I2} (ha : hasR v a = true) : hasR w a = true := by
  unfold hasR at *
  simp only [Bool.or_eq_true, beq_iff_eq, decide_eq_true_eq] at *
  have := h a.1
  omega
theorem rdy_mono {v w : CV} (h : ∀ c, nxt v c ≤ nxt w c) {x : It} (hx : rdyR v x = true) (he : nxt w x.id.1 = x.id.2) : rdyR w x = true := by
  unfold rdyR at *
  simp only [Bool.and_eq_true, beq_iff_eq] at *
  exact ⟨he.symm, has_mono h hx.2.1, has_mono h hx.2.2⟩
theorem Tk_append : ∀ {v w u : CV} {S T : List It}, Tk v S w → Tk w T u → Tk v (S ++ T) u
  | v, w, u, [], T, h1, h2 => by
    have h1 : w = v := h1
    subst h1; exact h2
  | v, w, u, x :: S, T, h1, h2 => ⟨h1.1, Tk_append h1.2 h2⟩
theorem Tk_nxt : ∀ {T : List It} {v w : CV}, Tk v T w → mayV v → (∀ x, x ∈ T → 0 < x.id.1 ∧ 0 ≤ x.id.2 ∧ x.id.2 ≤ 4294967294) →
    mayV w ∧ (∀ c, nxt v c ≤ nxt w c) ∧ (∀ x, x ∈ T → nxt v x.id.1 ≤ x.id.2 ∧ x.id.2 < nxt w x.id.1) ∧ ∀ c n, nxt v c ≤ n → n < nxt w c → ∃ x, x ∈ T ∧ x.id = (c, n)
  | [], v, w, h, hv, _ => by
    have h : w = v := h
    subst h
    exact ⟨hv, fun c => Int.le_refl _, fun x hx => (by cases hx), fun c n h1 h2 => by omega⟩
  | x :: T, v, w, h, hv, hT => by
    have hx := hT x (by simp)
    have hm := putR_may hv hx
    obtain ⟨h1, h2, h3, h4⟩ := Tk_nxt h.2 hm (fun y hy => hT y (List.mem_cons_of_mem _ hy))
    have hid := rdy_id h.1
    have hp := nxt_put (x := x) hv hx.1
    have hle : ∀ c, nxt v c ≤ nxt (putR v x) c := fun c => by
      rw [hp]
      split
      · rename_i e; rw [e]; omega
      · exact Int.le_refl _
    refine ⟨h1, fun c => Int.le_trans (hle c) (h2 c), fun y hy => ?_, fun c n g1 g2 => ?_⟩
    · rcases List.mem_cons.1 hy with rfl | hy
      · have := h2 y.id.1
        rw [hp, if_pos rfl] at this
        omega
      · have := h3 y hy
        exact ⟨Int.le_trans (hle _) this.1, this.2⟩
    · by_cases e : nxt (putR v x) c ≤ n
      · obtain ⟨y, hy, he⟩ := h4 c n e g2
        exact ⟨y, List.mem_cons_of_mem _ hy, he⟩
      · rw [hp] at e
        split at e
        · rename_i ec
          refine ⟨x, by simp, ?_⟩
          rw [ec] at g1
          have : n = x.id.2 := by omega
          rw [ec, this]
        · omega
/-- What is taken otherwise is among those that are taken till none is ready. -/
theorem Tk_sub {R T1 r1 : List It} {v w1 : CV} (hv : mayV v) (hw : wtOk v R) (h1 : Tk v T1 w1) (hp : (T1 ++ r1).Perm R) (hn : ∀ x, x ∈ r1 → rdyR w1 x = false) :
    ∀ (S : List It) (u w2 : CV), Tk u S w2 → mayV u → (∀ c, nxt v c ≤ nxt u c) → (∀ c, nxt u c ≤ nxt w1 c) → (∀ x, x ∈ S → x ∈ R) → ∀ x, x ∈ S → x ∈ T1
  | [], _, _, _, _, _, _, _, x, hx => by cases hx
  | y :: S, u, w2, h, hu, hvu, hle, hR, x, hx => by
    have hT1 : ∀ z, z ∈ T1 → z ∈ R := fun z hz => hp.mem_iff.1 (List.mem_append_left _ hz)
    obtain ⟨g1, g2, g3, g4⟩ := Tk_nxt h1 hv (fun z hz => hw.cl z (hT1 z hz))
    have hyR := hR y (by simp)
    have hyc := hw.cl y hyR
    have hid := rdy_id h.1
    have hyT : y ∈ T1 := by
      rcases List.mem_append.1 (hp.mem_iff.2 hyR) with hy | hy
      · exact hy
      · exfalso
        have hnr := hn y hy
        have hle' := hle y.id.1
        rcases Int.lt_or_eq_of_le hle' with hlt | heq
        · obtain ⟨z, hz, he⟩ := g4 y.id.1 y.id.2 (by rw [hid]; exact hvu _) (by rw [hid]; exact hlt)
          have hnd : (T1 ++ r1).Pairwise fun x y => x.id ≠ y.id := hw.nd.perm hp.symm (fun h => Ne.symm h)
          exact (List.pairwise_append.1 hnd).2.2 z hz y hy he
        · rw [rdy_mono hle h.1 (by rw [← heq, hid])] at hnr
          cases hnr
    rcases List.mem_cons.1 hx with rfl | hx
    · exact hyT
    · have hp2 := nxt_put (x := y) hu hyc.1
      refine Tk_sub hv hw h1 hp hn S _ w2 h.2 (putR_may hu hyc) (fun c => ?_) (fun c => ?_) (fun z hz => hR z (List.mem_cons_of_mem _ hz)) x hx
      · rw [hp2]
        split
        · rename_i e; have := hvu c; rw [e] at this ⊢; omega
        · exact hvu c
      · rw [hp2]
        split
        · rename_i e; rw [e]; have := (g3 y hyT).2; omega
        · exact hle c
theorem Tk_end {T1 T2 : List It} {v w1 w2 : CV} (hv : mayV v) (h1 : Tk v T1 w1) (h2 : Tk v T2 w2) (hc : ∀ x, x ∈ T1 → 0 < x.id.1 ∧ 0 ≤ x.id.2 ∧ x.id.2 ≤ 4294967294) (hs : ∀ x, x ∈ T1 ↔ x ∈ T2) : w1 = w2 := by
  obtain ⟨a1, a2, a3, a4⟩ := Tk_nxt h1 hv hc
  obtain ⟨b1, b2, b3, b4⟩ := Tk_nxt h2 hv (fun x hx => hc x ((hs x).2 hx))
  refine may_ext a1 b1 fun c => ?_
  rcases Int.lt_trichotomy (nxt w1 c) (nxt w2 c) with h | h | h
  · obtain ⟨x, hx, he⟩ := b4 c (nxt w1 c) (a2 c) h
    have := (a3 x ((hs x).2 hx)).2
    rw [he] at this
    simp only at this
    omega
  · exact h
  · obtain ⟨x, hx, he⟩ := a4 c (nxt w2 c) (b2 c) h
    have := (b3 x ((hs x).1 hx)).2
    rw [he] at this
    simp only at this
    omega
theorem wtOk.perm {v : CV} {l m : List It} (h : wtOk v l) (hp : m.Perm l) : wtOk v m :=
  ⟨fun x hx => h.cl x (hp.mem_iff.1 hx), fun x hx => h.ge x (hp.mem_iff.1 hx), h.nd.perm hp.symm (fun h => Ne.symm h)⟩
theorem getD_split {l : List It} {k : Nat} (hk : k < l.length) : l = l.take k ++ l.getD k it0 :: l.drop (k + 1) := by
  rw [List.getD_eq_getElem?_getD, List.getElem?_eq_getElem hk]
  exact (List.take_append_drop k l).symm.trans (by rw [List.drop_eq_getElem_cons hk]; rfl)
theorem delA_perm {l : List It} {k : Nat} (hk : k < l.length) : (l.getD k it0 :: delA l k).Perm l := by
  conv => rhs; rw [getD_split hk]
  exact List.perm_middle.symm
theorem delA_sub (l : List It) (k : Nat) : (delA l k).Sublist l := by
  unfold delA
  conv => rhs; rw [← List.take_append_drop k l]
  exact List.Sublist.append (List.Sublist.refl _) (by rw [show k + 1 = k + 1 from rfl, ← List.drop_drop]; exact List.drop_sublist _ _)
theorem delA_len {l : List It} {k : Nat} (hk : k < l.length) : (delA l k).length + 1 = l.length := by
  unfold delA; rw [List.length_append, List.length_take, List.length_drop]; omega
/-- All that a taking comes to. -/
structure tkS (v : CV) (r : List It) (t : List It × List It × CV) : Prop where
  run : Tk v t.1 t.2.2
  perm : (t.1 ++ t.2.1).Perm r
  sub : t.2.1.Sublist r
  stop : ∀ x, x ∈ t.2.1 → rdyR t.2.2 x = false
theorem findIdx_some {l : List It} {p : It → Bool} {k : Nat} (h : l.findIdx? p = some k) : k < l.length ∧ p (l.getD k it0) = true ∧ ∀ j, j < k → p (l.getD j it0) = false := by
  rw [List.findIdx?_eq_some_iff_getElem] at h
  obtain ⟨hk, h1, h2⟩ := h
  have hg : ∀ j (hj : j < l.length), l.getD j it0 = l[j] := fun j hj => by rw [List.getD_eq_getElem?_getD, List.getElem?_eq_getElem hj]; rfl
  refine ⟨hk, by rw [hg k hk]; exact h1, fun j hj => ?_⟩
  rw [hg j (by omega)]
  simpa using h2 j hj
theorem findIdx_none {l : List It} {p : It → Bool} (h : l.findIdx? p = none) : ∀ x, x ∈ l → p x = false := by
  rw [List.findIdx?_eq_none_iff] at h
  exact h
theorem takeL_ok : ∀ (n : Nat) (v : CV) (r : List It), r.length ≤ n → tkS v r (takeL n v r)
  | 0, v, r, h => by
    obtain rfl : r = [] := List.eq_nil_of_length_eq_zero (by omega)
    exact ⟨rfl, .refl _, .refl _, fun x hx => by cases hx⟩
  | n + 1, v, r, h => by
    unfold takeL
    cases hf : r.findIdx? (rdyR v) with
    | none => exact ⟨rfl, .refl _, .refl _, findIdx_none hf⟩
    | some k =>
      obtain ⟨h1, h2, h3⟩ := findIdx_some hf
      have hl := delA_len h1
      obtain ⟨g1, g2, g3, g4⟩ := takeL_ok n (putR v (r.getD k it0)) (delA r k) (by omega)
      exact ⟨⟨h2, g1⟩, ((List.perm_cons _).2 g2).trans (delA_perm h1), g3.trans (delA_sub r k), g4⟩
/-- By rising Ids. -/
def ltI (a b : I2) : Prop := a.1 < b.1 ∨ a.1 = b.1 ∧ a.2 < b.2
def risI (l : List It) : Prop := l.Pairwise fun x y => ltI x.id y.id
theorem rs_ext : ∀ {a b : List It}, risI a → risI b → a.Perm b → a = b
  | [], b, _, _, h => (List.nil_perm.1 h).symm
  | x :: a, [], _, _, h => absurd h.length_eq (by simp)
  | x :: a, y :: b, ha, hb, h => by
    have hxy : x = y := by
      rcases List.mem_cons.1 (h.mem_iff.1 (List.mem_cons_self)) with e | hx
      · exact e
      · rcases List.mem_cons.1 (h.mem_iff.2 (List.mem_cons_self (a := y))) with e | hy
        · exact e.symm
        · have h1 := (List.pairwise_cons.1 hb).1 x hx
          have h2 := (List.pairwise_cons.1 ha).1 y hy
          unfold ltI at h1 h2
          omega
    subst hxy
    rw [rs_ext (List.pairwise_cons.1 ha).2 (List.pairwise_cons.1 hb).2 ((List.perm_cons _).1 h)]
theorem tk_same {v : CV} {R : List It} {s t : List It × List It × CV} (hv : mayV v) (hw : wtOk v R) (h1 : tkS v R s) (h2 : tkS v R t) (hr1 : risI s.2.1) (hr2 : risI t.2.1) :
    s.1.length = t.1.length ∧ s.2.1 = t.2.1 ∧ s.2.2 = t.2.2 := by
  have hR1 : ∀ x, x ∈ s.1 → x ∈ R := fun x hx => h1.perm.mem_iff.1 (List.mem_append_left _ hx)
  have hR2 : ∀ x, x ∈ t.1 → x ∈ R := fun x hx => h2.perm.mem_iff.1 (List.mem_append_left _ hx)
  obtain ⟨a1, a2, _, _⟩ := Tk_nxt h1.run hv (fun x hx => hw.cl x (hR1 x hx))
  obtain ⟨b1, b2, _, _⟩ := Tk_nxt h2.run hv (fun x hx => hw.cl x (hR2 x hx))
  have s1 := Tk_sub hv hw h1.run h1.perm h1.stop t.1 v t.2.2 h2.run hv (fun c => Int.le_refl _) a2 hR2
  have s2 := Tk_sub hv hw h2.run h2.perm h2.stop s.1 v s.2.2 h1.run hv (fun c => Int.le_refl _) b2 hR1
  have hw2 := Tk_end hv h1.run h2.run (fun x hx => hw.cl x (hR1 x hx)) (fun x => ⟨s2 x, s1 x⟩)
  have nd1 : (s.1 ++ s.2.1).Nodup := (hw.nd.perm h1.perm.symm (fun h => Ne.symm h)).imp (fun h e => h (by rw [e]))
  have nd2 : (t.1 ++ t.2.1).Nodup := (hw.nd.perm h2.perm.symm (fun h => Ne.symm h)).imp (fun h e => h (by rw [e]))
  have hpT : s.1.Perm t.1 := (List.perm_ext_iff_of_nodup (List.nodup_append.1 nd1).1 (List.nodup_append.1 nd2).1).2 (fun x => ⟨s2 x, s1 x⟩)
  have hpr : s.2.1.Perm t.2.1 := by
    have h3 := h1.perm.trans h2.perm.symm
    exact (List.perm_append_left_iff t.1).1 ((hpT.symm.append_right _).trans h3)
  exact ⟨hpT.length_eq, rs_ext hr1 hr2 hpr, hw2⟩
end Go.Eng
/- What two keys, one behind the other, order: cmp.Or of two cmp.Compare, walked by the kit's own tactics. -/
set_option maxRecDepth 100000
set_option maxHeartbeats 4000000
set_option linter.unusedVariables false
set_option linter.unusedSimpArgs false
namespace Go.Proofs
open Go.Shelf Go.RowKit Go.Lib Go.Sort Go.Eng
def cmpI' (x y : Int) : Int := if x < y then -1 else if y < x then 1 else 0
theorem isNaN_w (x : Int) (w : World) : Calls Try.prog 118 #[.int .u32 x] w fun e w' => e = .returned (.bool false) ∧ w' = w := by
  go_enter Try.func118, (show Try.f118.ntmps = 6 from rfl)
  go_wp2
  go_ret
  exact ⟨by simp, rfl⟩
theorem compare_w (x y : Int) (w : World) : Calls Try.prog 92 #[.int .u32 x, .int .u32 y] w fun e w' => e = .returned (.int .i64 (cmpI' x y)) ∧ w' = w := by
  have e7 : ∀ args w, (callFunc 118 args).run Try.prog w = .ok (.enter 118 args) w := enters_of Try.func118 (by kernel_rfl) rfl
  go_enter Try.func92, (show Try.f92.ntmps = 20 from rfl)
  go_wp2_with (go_at_fn 118; refine (isNaN_w _ _).mono ?_; rintro e w' ⟨rfl, hw⟩; rw [hw])
  all_goals (go_ret; refine ⟨?_, rfl⟩; unfold cmpI'; (repeat' split) <;> first | rfl | (exfalso; omega))
theorem compare_g (x y : Int) (w : World) : Calls Try.prog 92 #[.int .u32 x, .int .u32 y] w fun e w' => e = .returned (.int .i64 (cmpI' x y)) ∧ ∃ q os', w' = grow (w.drewN q) os' :=
  (compare_w x y w).mono fun e w' ⟨h1, h2⟩ => ⟨h1, 0, #[], by rw [h2, grow_empty]; rfl⟩
theorem or_w (a b : Int) (blk : Nat) (w : World) (h0 : w.cell? ⟨blk, 0, none⟩ = some (.int .i64 a)) (h1 : w.cell? ⟨blk, 1, none⟩ = some (.int .i64 b)) :
    Calls Try.prog 91 #[.slice (some ⟨blk, 0, none⟩) 2 2] w fun e w' => e = .returned (.int .i64 (if a = 0 then b else a)) ∧ w' = w := by
  obtain ⟨r, hr⟩ : ∃ r, (if a = 0 then b else a) = r := ⟨_, rfl⟩
  rw [hr]
  go_enter Try.func91, (show Try.f91.ntmps = 18 from rfl)
  go_wp2
  refine wp_loop_rounds 3 ?_
  unfold Code.rounds
  by_cases ha : a = 0
  · rw [if_pos ha] at hr
    subst ha
    subst hr
    have e0 : (((0 : Int) != 0)) = false := rfl
    go_wp2
    unfold Code.rounds
    by_cases hb : b = 0
    · subst hb
      go_wp2
      unfold Code.rounds
      go_wp2
      go_ret
      exact ⟨rfl, rfl⟩
    · have e1 : (b != 0) = true := bne_iff_ne.2 hb
      go_wp2
      go_ret
      exact ⟨rfl, rfl⟩
  · rw [if_neg ha] at hr
    subst hr
    have e0 : (a != 0) = true := bne_iff_ne.2 ha
    go_wp2
    go_ret
    exact ⟨rfl, rfl⟩
theorem idc_w (x y : Int × Int) (W : World) : Calls Try.prog 64 #[.agg #[.int .u32 x.1, .int .u32 x.2], .agg #[.int .u32 y.1, .int .u32 y.2]] W fun e w' => e = .returned (.int .i64 (if cmpI' x.1 y.1 = 0 then cmpI' x.2 y.2 else cmpI' x.1 y.1)) ∧ ∃ q os', w' = grow (W.drewN q) os' := by
  have e7 : ∀ args w, (callFunc 92 args).run Try.prog w = .ok (.enter 92 args) w := enters_of Try.func92 (by kernel_rfl) rfl
  have e8 : ∀ args w, (callFunc 91 args).run Try.prog w = .ok (.enter 91 args) w := enters_of Try.func91 (by kernel_rfl) rfl
  have mixed : Try.prog.follows .mixedOrders = true := by kernel_rfl
  obtain ⟨r, hr⟩ : ∃ r, (if cmpI' x.1 y.1 = 0 then cmpI' x.2 y.2 else cmpI' x.1 y.1) = r := ⟨_, rfl⟩
  rw [hr]
  go_enter Try.func64, (show Try.f64.ntmps = 17 from rfl)
  go_wp2
  obtain ⟨W2, hW2⟩ : ∃ W2, W2 = ((W.alloc (Obj.cells #[.int .u32 x.1, .int .u32 x.2] 38)).alloc (Obj.cells #[.int .u32 y.1, .int .u32 y.2] 38)) := ⟨_, rfl⟩
  have c0 : ∀ n os, (grow (W2.drewN n) os).cell? ⟨W.heap.size, 0, none⟩ = some (.int .u32 x.1) := fun n os => cell_grown (by subst hW2; simp <;> omega) (by subst hW2; simp) n os
  have c1 : ∀ n os, (grow (W2.drewN n) os).cell? ⟨W.heap.size, 1, none⟩ = some (.int .u32 x.2) := fun n os => cell_grown (by subst hW2; simp <;> omega) (by subst hW2; simp) n os
  have c2 : ∀ n os, (grow (W2.drewN n) os).cell? ⟨W.heap.size + 1, 0, none⟩ = some (.int .u32 y.1) := fun n os => cell_grown (by subst hW2; simp <;> omega) (by subst hW2; simp) n os
  have c3 : ∀ n os, (grow (W2.drewN n) os).cell? ⟨W.heap.size + 1, 1, none⟩ = some (.int .u32 y.2) := fun n os => cell_grown (by subst hW2; simp <;> omega) (by subst hW2; simp) n os
  have hfin : ∃ q os', W2 = grow (W.drewN q) os' := ⟨0, _, by rw [hW2, alloc_eq_grow, alloc_eq_grow, grow_grow]; rfl⟩
  rw [← hW2]
  clear hW2
  refine wp_region_mix (k := 10) (C := fun w' => ∃ p : GrownBy, w' = grow (W2.drewN p.n) p.os) mixed (by kernel_rfl) ⟨⟨1, #[]⟩, by rw [grow_empty]; rfl⟩ ?_
  simp only [List.take_succ_cons, List.take_zero, List.drop_succ_cons, List.drop_zero]
  repeat (quiet_step (exact Calls.grown_of (compare_g _ _ _)))
  refine wpQuiet_nil ?_
  intro _ hw'
  obtain ⟨⟨nq, osq⟩, rfl⟩ := hw'
  obtain ⟨q1, os1, hfin⟩ := hfin
  have hfin3 : ∃ q os', grow (W2.drewN nq) osq = grow (W.drewN q) os' := ⟨q1 + nq, os1 ++ osq, by rw [hfin]; show grow (grow ((W.drewN q1).drewN nq) os1) osq = _; rw [grow_grow, World.drewN_drewN]⟩
  clear hfin c0 c1 c2 c3
  show wpList _ _ _ _ _ (grow (W2.drewN nq) osq)
  generalize grow (W2.drewN nq) osq = W3 at hfin3 ⊢
  generalize cmpI' x.1 y.1 = a at hr ⊢
  generalize cmpI' x.2 y.2 = b at hr ⊢
  go_wp2_with (go_at_fn 91; refine (or_w a b W3.heap.size _ (by simp) (by simp)).mono ?_; rintro e w' ⟨rfl, hw⟩; rw [hw, hr])
  go_ret
  obtain ⟨q, os', rfl⟩ := hfin3
  exact ⟨rfl, q, os' ++ #[_], by rw [alloc_eq_grow, grow_grow]⟩
theorem lt_lex {α : Type} (f g : α → Int) (x y : α) : ltOf (fun x y : α => if cmpI' (f x) (f y) = 0 then cmpI' (g x) (g y) else cmpI' (f x) (f y)) x y = decide (f x < f y ∨ f x = f y ∧ g x < g y) := by
  simp only [ltOf, cmpI']
  congr 1
  repeat' split
  all_goals (simp only [eq_iff_iff]; omega)
theorem swo_lex {α : Type} (f g : α → Int) : SWO (ltOf fun x y : α => if cmpI' (f x) (f y) = 0 then cmpI' (g x) (g y) else cmpI' (f x) (f y)) := by
  refine ⟨fun x => ?_, fun x y z h1 h2 => ?_, fun x y z h1 h2 => ?_⟩
  all_goals
    rw [lt_lex] at *
    try rw [lt_lex] at h1
    try rw [lt_lex] at h2
    simp only [decide_eq_true_eq, decide_eq_false_iff_not] at *
    omega
end Go.Proofs
/-
  DERIVED: THE SHELF's CONTRACTS AT THIS DUMP, IN PLAIN WORDS (tools/lay-plain.mjs out of 'Lay.lean', which tools/lay-shelf.mjs wrote): THE SAME DECLARATIONS UNDER THE SAME NAMES: 'import', 'namespace', 'open', 'def', 'theorem' AND NOTHING ELSE: no command of the shelf's: FOR A HAND-IN. Each laying: the table of numbers ('.._ren') and one theorem, a field a fact of the dump's own or the kernel's comparison; each contract: ONE APPLICATION.
-/
set_option maxRecDepth 100000
namespace Go.Proofs
open Go.Shelf
def Try.sortItem_ren : Go.Shelf.Ren := ⟨fun | 6 => 62 | 15 => 90 | 14 => 89 | 28 => 116 | 29 => 117 | 20 => 108 | 21 => 109 | 22 => 110 | 23 => 111 | 24 => 112 | 25 => 113 | 26 => 114 | 27 => 115 | 46 => 129 | 47 => 130 | 48 => 131 | 49 => 132 | 50 => 133 | 57 => 137 | n => n, fun | 22 => 22 | 24 => 40 | 25 => 118 | 3 => 3 | 39 => 145 | 0 => 0 | 53 => 36 | 55 => 172 | 4 => 4 | 46 => 165 | 45 => 164 | 50 => 83 | 5 => 5 | 9 => 9 | 66 => 182 | 70 => 186 | 76 => 190 | 77 => 191 | n => n, fun | n => n⟩
theorem Try.sortItem : Go.Proofs.SlLaysF0.n6 Try.prog Try.sortItem_ren := {
  mixed := by kernel_rfl
  f6 := ⟨Try.f62.name, by decide, Try.func62.trans (congrArg some (by kernel_rfl))⟩
  f14 := ⟨Try.f89.name, by decide, Try.func89.trans (congrArg some (by kernel_rfl))⟩
  f15 := Try.func90.trans (congrArg some (by kernel_rfl))
  f20 := ⟨Try.f108.name, by decide, Try.func108.trans (congrArg some (by kernel_rfl))⟩
  f21 := ⟨Try.f109.name, by decide, Try.func109.trans (congrArg some (by kernel_rfl))⟩
  f22 := ⟨Try.f110.name, by decide, Try.func110.trans (congrArg some (by kernel_rfl))⟩
  f23 := ⟨Try.f111.name, by decide, Try.func111.trans (congrArg some (by kernel_rfl))⟩
  f24 := ⟨Try.f112.name, by decide, Try.func112.trans (congrArg some (by kernel_rfl))⟩
  f25 := ⟨Try.f113.name, by decide, Try.func113.trans (congrArg some (by kernel_rfl))⟩
  f26 := ⟨Try.f114.name, by decide, Try.func114.trans (congrArg some (by kernel_rfl))⟩
  f27 := ⟨Try.f115.name, by decide, Try.func115.trans (congrArg some (by kernel_rfl))⟩
  f28 := Try.func116.trans (congrArg some (by kernel_rfl))
  f29 := Try.func117.trans (congrArg some (by kernel_rfl))
  f46 := ⟨Try.f129.name, by decide, Try.func129.trans (congrArg some (by kernel_rfl))⟩
  f47 := Try.func130.trans (congrArg some (by kernel_rfl))
  f48 := Try.func131.trans (congrArg some (by kernel_rfl))
  f49 := ⟨Try.f132.name, by decide, Try.func132.trans (congrArg some (by kernel_rfl))⟩
  f50 := ⟨Try.f133.name, by decide, Try.func133.trans (congrArg some (by kernel_rfl))⟩
  f57 := ⟨Try.f137.name, by decide, Try.func137.trans (congrArg some (by kernel_rfl))⟩
  t0 := Try.underlying0
  a0 := Try.isAgg0
  z0 := Try.sizeOf0
  v0 := Try.zeroValue0
  t3 := Try.underlying3
  a3 := Try.isAgg3
  z3 := Try.sizeOf3
  v3 := Try.zeroValue3
  t4 := Try.underlying4
  a4 := Try.isAgg4
  z4 := Try.sizeOf4
  v4 := Try.zeroValue4
  t5 := Try.underlying5
  a5 := Try.isAgg5
  z5 := Try.sizeOf5
  v5 := Try.zeroValue5
  t9 := Try.underlying9
  a9 := Try.isAgg9
  z9 := Try.sizeOf9
  v9 := Try.zeroValue9
  t22 := Try.underlying22
  a22 := Try.isAgg22
  z22 := Try.sizeOf22
  v22 := Try.zeroValue22
  t25 := Try.underlying118
  a25 := Try.isAgg118
  z25 := Try.sizeOf118
  v25 := Try.zeroValue118
  t39 := Try.underlying145
  a39 := Try.isAgg145
  z39 := Try.sizeOf145
  v39 := Try.zeroValue145
  t45 := Try.underlying164
  a45 := Try.isAgg164
  z45 := Try.sizeOf164
  v45 := Try.zeroValue164
  t46 := Try.underlying165
  a46 := Try.isAgg165
  z46 := Try.sizeOf165
  v46 := Try.zeroValue165
  t50 := Try.underlying83
  a50 := Try.isAgg83
  z50 := Try.sizeOf83
  v50 := Try.zeroValue83
  t53 := Try.underlying36
  a53 := Try.isAgg36
  z53 := Try.sizeOf36
  v53 := Try.zeroValue36
  t55 := Try.underlying172
  a55 := Try.isAgg172
  z55 := Try.sizeOf172
  v55 := Try.zeroValue172
  t66 := Try.underlying182
  a66 := Try.isAgg182
  z66 := Try.sizeOf182
  v66 := Try.zeroValue182
  t70 := Try.underlying186
  a70 := Try.isAgg186
  z70 := Try.sizeOf186
  v70 := Try.zeroValue186
  t76 := Try.underlying190
  a76 := Try.isAgg190
  z76 := Try.sizeOf190
  v76 := Try.zeroValue190
  t77 := Try.underlying191
  a77 := Try.isAgg191
  z77 := Try.sizeOf191
  v77 := Try.zeroValue191 }
end Go.Proofs
/- Sorting items by their Ids. -/
set_option linter.unusedVariables false
set_option linter.unusedSimpArgs false
set_option maxRecDepth 100000
set_option maxHeartbeats 4000000
namespace Go.Eng
open Go Go.RowKit Go.Proofs Go.Sort Go.Shelf Go.Lib
abbrev itR (l : List It) : Nat → List IC := fun k => itF (l.getD k it0)
def encIt (x : It) : List Value := [.int .u32 x.id.1, .int .u32 x.id.2, .int .u32 x.left.1, .int .u32 x.left.2, .int .u32 x.right.1, .int .u32 x.right.2, .int .i32 x.ch]
theorem two_alloc (W : World) (o1 o2 : Obj) (q : Nat) (os' : Array Obj) : ∃ os2, grow (((W.alloc o1).alloc o2).drewN q) os' = grow (W.drewN q) os2 :=
  ⟨(#[o1] ++ #[o2]) ++ os', by rw [alloc_eq_grow, alloc_eq_grow, grow_grow]; exact grow_grow (W.drewN q) _ os'⟩
theorem itc_w (x y : It) (W : World) : Calls Try.prog 63 #[.agg (encIt x).toArray, .agg (encIt y).toArray] W fun e w' => e = .returned (.int .i64 (if cmpI' x.id.1 y.id.1 = 0 then cmpI' x.id.2 y.id.2 else cmpI' x.id.1 y.id.1)) ∧ ∃ q os', w' = grow (W.drewN q) os' := by
  have e7 : ∀ args w, (callFunc 64 args).run Try.prog w = .ok (.enter 64 args) w := enters_of Try.func64 (by kernel_rfl) rfl
  have mixed : Try.prog.follows .mixedOrders = true := by kernel_rfl
  obtain ⟨⟨x1, x2⟩, ⟨x3, x4⟩, ⟨x5, x6⟩, x7⟩ := x
  obtain ⟨⟨y1, y2⟩, ⟨y3, y4⟩, ⟨y5, y6⟩, y7⟩ := y
  unfold encIt
  have hc := fun W => idc_w (x1, x2) (y1, y2) W
  simp only at hc ⊢
  obtain ⟨r, hr⟩ : ∃ r, (if cmpI' x1 y1 = 0 then cmpI' x2 y2 else cmpI' x1 y1) = r := ⟨_, rfl⟩
  rw [hr] at hc ⊢
  go_enter Try.func63, (show Try.f63.ntmps = 10 from rfl)
  go_wp2_with (go_at_fn 64; refine (hc _).mono ?_; rintro e w' ⟨rfl, q, os', hw⟩)
  go_ret
  refine ⟨rfl, q, ?_⟩
  exact two_alloc W _ _ q os'
instance : Inhabited It := ⟨it0⟩
theorem item_sort (l : List It) (hl : l.length ≤ 1000000) : CallV Try.prog 62 [.c (.row 0), .c (.fn 63 [])] [some (.row 40 7 l.length (itR l))]
    (fun r own' => ∃ ys : List It, ys.Perm l ∧ ys.Pairwise (fun x y => ¬ ltI y.id x.id) ∧ r = .tup [] ∧ own' = [some (.row 40 7 ys.length (itR ys))]) := by
  have h := callV_sort (α := It) Try.sortItem 7 (fun _ => by kernel_rfl) (fun _ => by kernel_rfl) encIt (fun _ => rfl) (fun x v hv => by
      simp only [encIt, List.mem_cons, List.not_mem_nil, or_false] at hv
      rcases hv with rfl | rfl | rfl | rfl | rfl | rfl | rfl <;> rfl) _ (swo_lex (fun x : It => x.id.1) (fun x : It => x.id.2)) 63 (enters_of Try.func63 (by kernel_rfl) rfl) (fun x y W => itc_w x y W) 40 l (by omega)
  refine CallV.mono h ?_
  rintro r own' ⟨ys, h1, h2, h3, h4⟩
  refine ⟨ys, h1, List.pairwise_iff_getElem.2 fun i j hi hj hij => ?_, h3, h4⟩
  have := h2 i j hij hj
  rw [lt_lex, List.getD_eq_getElem?_getD, List.getD_eq_getElem?_getD, List.getElem?_eq_getElem hi, List.getElem?_eq_getElem hj] at this
  simp only [Option.getD_some, decide_eq_false_iff_not] at this
  exact this
end Go.Eng
