/- A part of the proof: what the functions of the program come to, told by a small reckoner of states. -/
import Derived.Test.YteglopjljejjkabGA23TA27
import Derived.Test.YteglopjljejjkabProg
import Derived.KernelRfl
namespace Go.Eng
open Go Go.RowKit Go.Proofs
instance : HasGl Try.prog := ⟨fun _ => True, fun _ _ => trivial⟩
def ti1 : TI := ⟨1, false, (TypeDesc.func #[] #[] false), Value.nilFunc, 8, false, false, false⟩
theorem tf1 : TF Try.prog 1 ti1 := ⟨Try.sizeOf1, Try.isAgg1, Try.underlying1, Try.zeroValue1, by kernel_rfl, by kernel_rfl, by kernel_rfl, by kernel_rfl⟩
def ti2 : TI := ⟨1, false, (TypeDesc.int IntKind.i64), (Value.int IntKind.i64 0), 8, false, false, true⟩
theorem tf2 : TF Try.prog 2 ti2 := ⟨Try.sizeOf2, Try.isAgg2, Try.underlying2, Try.zeroValue2, by kernel_rfl, by kernel_rfl, by kernel_rfl, by kernel_rfl⟩
def ti3 : TI := ⟨1, false, (TypeDesc.int IntKind.i64), (Value.int IntKind.i64 0), 8, false, false, true⟩
theorem tf3 : TF Try.prog 3 ti3 := ⟨Try.sizeOf3, Try.isAgg3, Try.underlying3, Try.zeroValue3, by kernel_rfl, by kernel_rfl, by kernel_rfl, by kernel_rfl⟩
def ti4 : TI := ⟨1, false, TypeDesc.bool, (Value.bool false), 1, false, false, true⟩
theorem tf4 : TF Try.prog 4 ti4 := ⟨Try.sizeOf4, Try.isAgg4, Try.underlying4, Try.zeroValue4, by kernel_rfl, by kernel_rfl, by kernel_rfl, by kernel_rfl⟩
def ti5 : TI := ⟨1, false, (TypeDesc.int IntKind.u8), (Value.int IntKind.u8 0), 1, false, false, true⟩
theorem tf5 : TF Try.prog 5 ti5 := ⟨Try.sizeOf5, Try.isAgg5, Try.underlying5, Try.zeroValue5, by kernel_rfl, by kernel_rfl, by kernel_rfl, by kernel_rfl⟩
def ti6 : TI := ⟨1, false, (TypeDesc.int IntKind.u8), (Value.int IntKind.u8 0), 1, false, false, true⟩
theorem tf6 : TF Try.prog 6 ti6 := ⟨Try.sizeOf6, Try.isAgg6, Try.underlying6, Try.zeroValue6, by kernel_rfl, by kernel_rfl, by kernel_rfl, by kernel_rfl⟩
def ti9 : TI := ⟨1, false, TypeDesc.string, (Value.string { data := #[] }), 16, false, false, true⟩
theorem tf9 : TF Try.prog 9 ti9 := ⟨Try.sizeOf9, Try.isAgg9, Try.underlying9, Try.zeroValue9, by kernel_rfl, by kernel_rfl, by kernel_rfl, by kernel_rfl⟩
def ti10 : TI := ⟨1, false, TypeDesc.string, (Value.string { data := #[] }), 16, false, false, true⟩
theorem tf10 : TF Try.prog 10 ti10 := ⟨Try.sizeOf10, Try.isAgg10, Try.underlying10, Try.zeroValue10, by kernel_rfl, by kernel_rfl, by kernel_rfl, by kernel_rfl⟩
def ti11 : TI := ⟨1, false, TypeDesc.string, (Value.string { data := #[] }), 16, false, false, true⟩
theorem tf11 : TF Try.prog 11 ti11 := ⟨Try.sizeOf11, Try.isAgg11, Try.underlying11, Try.zeroValue11, by kernel_rfl, by kernel_rfl, by kernel_rfl, by kernel_rfl⟩
def ti12 : TI := ⟨1, false, (TypeDesc.int IntKind.u64), (Value.int IntKind.u64 0), 8, false, false, true⟩
theorem tf12 : TF Try.prog 12 ti12 := ⟨Try.sizeOf12, Try.isAgg12, Try.underlying12, Try.zeroValue12, by kernel_rfl, by kernel_rfl, by kernel_rfl, by kernel_rfl⟩
def ti15 : TI := ⟨1, false, (TypeDesc.pointer 195), (Value.pointer none), 8, false, false, true⟩
theorem tf15 : TF Try.prog 15 ti15 := ⟨Try.sizeOf15, Try.isAgg15, Try.underlying15, Try.zeroValue15, by kernel_rfl, by kernel_rfl, by kernel_rfl, by kernel_rfl⟩
def ti16 : TI := ⟨1, false, (TypeDesc.pointer 198), (Value.pointer none), 8, false, false, true⟩
theorem tf16 : TF Try.prog 16 ti16 := ⟨Try.sizeOf16, Try.isAgg16, Try.underlying16, Try.zeroValue16, by kernel_rfl, by kernel_rfl, by kernel_rfl, by kernel_rfl⟩
def ti17 : TI := ⟨1, false, (TypeDesc.pointer 206), (Value.pointer none), 8, false, false, true⟩
theorem tf17 : TF Try.prog 17 ti17 := ⟨Try.sizeOf17, Try.isAgg17, Try.underlying17, Try.zeroValue17, by kernel_rfl, by kernel_rfl, by kernel_rfl, by kernel_rfl⟩
def ti20 : TI := ⟨1, false, (TypeDesc.interface #[]), Value.nilIface, 16, false, false, true⟩
theorem tf20 : TF Try.prog 20 ti20 := ⟨Try.sizeOf20, Try.isAgg20, Try.underlying20, Try.zeroValue20, by kernel_rfl, by kernel_rfl, by kernel_rfl, by kernel_rfl⟩
def ti21 : TI := ⟨1, false, (TypeDesc.int IntKind.i32), (Value.int IntKind.i32 0), 4, false, false, true⟩
theorem tf21 : TF Try.prog 21 ti21 := ⟨Try.sizeOf21, Try.isAgg21, Try.underlying21, Try.zeroValue21, by kernel_rfl, by kernel_rfl, by kernel_rfl, by kernel_rfl⟩
def ti22 : TI := ⟨1, false, (TypeDesc.slice 90), (Value.slice none 0 0), 24, false, false, false⟩
theorem tf22 : TF Try.prog 22 ti22 := ⟨Try.sizeOf22, Try.isAgg22, Try.underlying22, Try.zeroValue22, by kernel_rfl, by kernel_rfl, by kernel_rfl, by kernel_rfl⟩
def ti23 : TI := ⟨1, false, (TypeDesc.func #[] #[4] false), Value.nilFunc, 8, false, false, false⟩
theorem tf23 : TF Try.prog 23 ti23 := ⟨Try.sizeOf23, Try.isAgg23, Try.underlying23, Try.zeroValue23, by kernel_rfl, by kernel_rfl, by kernel_rfl, by kernel_rfl⟩
def ti24 : TI := ⟨1, false, (TypeDesc.func #[22] #[4] false), Value.nilFunc, 8, false, false, false⟩
theorem tf24 : TF Try.prog 24 ti24 := ⟨Try.sizeOf24, Try.isAgg24, Try.underlying24, Try.zeroValue24, by kernel_rfl, by kernel_rfl, by kernel_rfl, by kernel_rfl⟩
def ti25 : TI := ⟨1, false, (TypeDesc.func #[22, 22] #[22] false), Value.nilFunc, 8, false, false, false⟩
theorem tf25 : TF Try.prog 25 ti25 := ⟨Try.sizeOf25, Try.isAgg25, Try.underlying25, Try.zeroValue25, by kernel_rfl, by kernel_rfl, by kernel_rfl, by kernel_rfl⟩
def ti26 : TI := ⟨1, false, (TypeDesc.func #[22, 22] #[4] false), Value.nilFunc, 8, false, false, false⟩
theorem tf26 : TF Try.prog 26 ti26 := ⟨Try.sizeOf26, Try.isAgg26, Try.underlying26, Try.zeroValue26, by kernel_rfl, by kernel_rfl, by kernel_rfl, by kernel_rfl⟩
def ti27 : TI := ⟨1, false, (TypeDesc.func #[22, 22, 22] #[4] false), Value.nilFunc, 8, false, false, false⟩
theorem tf27 : TF Try.prog 27 ti27 := ⟨Try.sizeOf27, Try.isAgg27, Try.underlying27, Try.zeroValue27, by kernel_rfl, by kernel_rfl, by kernel_rfl, by kernel_rfl⟩
def ti28 : TI := ⟨1, false, (TypeDesc.slice 41), (Value.slice none 0 0), 24, false, false, false⟩
theorem tf28 : TF Try.prog 28 ti28 := ⟨Try.sizeOf28, Try.isAgg28, Try.underlying28, Try.zeroValue28, by kernel_rfl, by kernel_rfl, by kernel_rfl, by kernel_rfl⟩
def ti29 : TI := ⟨1, false, (TypeDesc.func #[28] #[28] false), Value.nilFunc, 8, false, false, false⟩
theorem tf29 : TF Try.prog 29 ti29 := ⟨Try.sizeOf29, Try.isAgg29, Try.underlying29, Try.zeroValue29, by kernel_rfl, by kernel_rfl, by kernel_rfl, by kernel_rfl⟩
def ti30 : TI := ⟨1, false, (TypeDesc.slice 97), (Value.slice none 0 0), 24, false, false, false⟩
theorem tf30 : TF Try.prog 30 ti30 := ⟨Try.sizeOf30, Try.isAgg30, Try.underlying30, Try.zeroValue30, by kernel_rfl, by kernel_rfl, by kernel_rfl, by kernel_rfl⟩
def ti31 : TI := ⟨3, true, (TypeDesc.struct #[{ name := "l", type := 30, offset := 0, embedded := false, tag := "", pkgPath := "surcingle/index", byteOffset := 0 }, { name := "len", type := 3, offset := 1, embedded := false, tag := "", pkgPath := "surcingle/index", byteOffset := 24 }, { name := "shown", type := 3, offset := 2, embedded := false, tag := "", pkgPath := "surcingle/index", byteOffset := 32 }]), (Value.agg #[Value.slice none 0 0, Value.int IntKind.i64 0, Value.int IntKind.i64 0]), 40, false, false, false⟩
theorem tf31 : TF Try.prog 31 ti31 := ⟨Try.sizeOf31, Try.isAgg31, Try.underlying31, Try.zeroValue31, by kernel_rfl, by kernel_rfl, by kernel_rfl, by kernel_rfl⟩
def ti32 : TI := ⟨3, true, (TypeDesc.struct #[{ name := "l", type := 30, offset := 0, embedded := false, tag := "", pkgPath := "surcingle/index", byteOffset := 0 }, { name := "len", type := 3, offset := 1, embedded := false, tag := "", pkgPath := "surcingle/index", byteOffset := 24 }, { name := "shown", type := 3, offset := 2, embedded := false, tag := "", pkgPath := "surcingle/index", byteOffset := 32 }]), (Value.agg #[Value.slice none 0 0, Value.int IntKind.i64 0, Value.int IntKind.i64 0]), 40, false, false, false⟩
theorem tf32 : TF Try.prog 32 ti32 := ⟨Try.sizeOf32, Try.isAgg32, Try.underlying32, Try.zeroValue32, by kernel_rfl, by kernel_rfl, by kernel_rfl, by kernel_rfl⟩
def ti33 : TI := ⟨1, false, (TypeDesc.interface #[("Error", 193)]), Value.nilIface, 16, false, true, true⟩
theorem tf33 : TF Try.prog 33 ti33 := ⟨Try.sizeOf33, Try.isAgg33, Try.underlying33, Try.zeroValue33, by kernel_rfl, by kernel_rfl, by kernel_rfl, by kernel_rfl⟩
def ti34 : TI := ⟨1, false, (TypeDesc.interface #[("Error", 193)]), Value.nilIface, 16, false, true, true⟩
theorem tf34 : TF Try.prog 34 ti34 := ⟨Try.sizeOf34, Try.isAgg34, Try.underlying34, Try.zeroValue34, by kernel_rfl, by kernel_rfl, by kernel_rfl, by kernel_rfl⟩
def ti36 : TI := ⟨1, false, (TypeDesc.func #[3, 41] #[32, 34] false), Value.nilFunc, 8, false, false, false⟩
theorem tf36 : TF Try.prog 36 ti36 := ⟨Try.sizeOf36, Try.isAgg36, Try.underlying36, Try.zeroValue36, by kernel_rfl, by kernel_rfl, by kernel_rfl, by kernel_rfl⟩
def ti37 : TI := ⟨1, false, (TypeDesc.int IntKind.u32), (Value.int IntKind.u32 0), 4, false, false, true⟩
theorem tf37 : TF Try.prog 37 ti37 := ⟨Try.sizeOf37, Try.isAgg37, Try.underlying37, Try.zeroValue37, by kernel_rfl, by kernel_rfl, by kernel_rfl, by kernel_rfl⟩
def ti38 : TI := ⟨2, true, (TypeDesc.struct #[{ name := "Client", type := 37, offset := 0, embedded := false, tag := "", pkgPath := "", byteOffset := 0 }, { name := "Clock", type := 37, offset := 1, embedded := false, tag := "", pkgPath := "", byteOffset := 4 }]), (Value.agg #[Value.int IntKind.u32 0, Value.int IntKind.u32 0]), 8, false, false, true⟩
theorem tf38 : TF Try.prog 38 ti38 := ⟨Try.sizeOf38, Try.isAgg38, Try.underlying38, Try.zeroValue38, by kernel_rfl, by kernel_rfl, by kernel_rfl, by kernel_rfl⟩
def ti39 : TI := ⟨2, true, (TypeDesc.struct #[{ name := "Client", type := 37, offset := 0, embedded := false, tag := "", pkgPath := "", byteOffset := 0 }, { name := "Clock", type := 37, offset := 1, embedded := false, tag := "", pkgPath := "", byteOffset := 4 }]), (Value.agg #[Value.int IntKind.u32 0, Value.int IntKind.u32 0]), 8, false, false, true⟩
theorem tf39 : TF Try.prog 39 ti39 := ⟨Try.sizeOf39, Try.isAgg39, Try.underlying39, Try.zeroValue39, by kernel_rfl, by kernel_rfl, by kernel_rfl, by kernel_rfl⟩
def ti40 : TI := ⟨4, true, (TypeDesc.struct #[{ name := "Id", type := 39, offset := 0, embedded := false, tag := "", pkgPath := "", byteOffset := 0 }, { name := "Ch", type := 21, offset := 2, embedded := false, tag := "", pkgPath := "", byteOffset := 8 }, { name := "Gone", type := 4, offset := 3, embedded := false, tag := "", pkgPath := "", byteOffset := 12 }]), (Value.agg #[Value.int IntKind.u32 0, Value.int IntKind.u32 0, Value.int IntKind.i32 0, Value.bool false]), 16, false, false, true⟩
theorem tf40 : TF Try.prog 40 ti40 := ⟨Try.sizeOf40, Try.isAgg40, Try.underlying40, Try.zeroValue40, by kernel_rfl, by kernel_rfl, by kernel_rfl, by kernel_rfl⟩
def ti41 : TI := ⟨4, true, (TypeDesc.struct #[{ name := "Id", type := 39, offset := 0, embedded := false, tag := "", pkgPath := "", byteOffset := 0 }, { name := "Ch", type := 21, offset := 2, embedded := false, tag := "", pkgPath := "", byteOffset := 8 }, { name := "Gone", type := 4, offset := 3, embedded := false, tag := "", pkgPath := "", byteOffset := 12 }]), (Value.agg #[Value.int IntKind.u32 0, Value.int IntKind.u32 0, Value.int IntKind.i32 0, Value.bool false]), 16, false, false, true⟩
theorem tf41 : TF Try.prog 41 ti41 := ⟨Try.sizeOf41, Try.isAgg41, Try.underlying41, Try.zeroValue41, by kernel_rfl, by kernel_rfl, by kernel_rfl, by kernel_rfl⟩
def ti42 : TI := ⟨1, false, (TypeDesc.func #[] #[3] false), Value.nilFunc, 8, false, false, false⟩
theorem tf42 : TF Try.prog 42 ti42 := ⟨Try.sizeOf42, Try.isAgg42, Try.underlying42, Try.zeroValue42, by kernel_rfl, by kernel_rfl, by kernel_rfl, by kernel_rfl⟩
def ti43 : TI := ⟨1, false, (TypeDesc.func #[3, 3] #[3] false), Value.nilFunc, 8, false, false, false⟩
theorem tf43 : TF Try.prog 43 ti43 := ⟨Try.sizeOf43, Try.isAgg43, Try.underlying43, Try.zeroValue43, by kernel_rfl, by kernel_rfl, by kernel_rfl, by kernel_rfl⟩
def ti44 : TI := ⟨1, false, (TypeDesc.func #[39] #[32, 34] false), Value.nilFunc, 8, false, false, false⟩
theorem tf44 : TF Try.prog 44 ti44 := ⟨Try.sizeOf44, Try.isAgg44, Try.underlying44, Try.zeroValue44, by kernel_rfl, by kernel_rfl, by kernel_rfl, by kernel_rfl⟩
def ti46 : TI := ⟨1, false, (TypeDesc.func #[39] #[3, 4] false), Value.nilFunc, 8, false, false, false⟩
theorem tf46 : TF Try.prog 46 ti46 := ⟨Try.sizeOf46, Try.isAgg46, Try.underlying46, Try.zeroValue46, by kernel_rfl, by kernel_rfl, by kernel_rfl, by kernel_rfl⟩
def ti48 : TI := ⟨1, false, (TypeDesc.func #[3] #[41, 34] false), Value.nilFunc, 8, false, false, false⟩
theorem tf48 : TF Try.prog 48 ti48 := ⟨Try.sizeOf48, Try.isAgg48, Try.underlying48, Try.zeroValue48, by kernel_rfl, by kernel_rfl, by kernel_rfl, by kernel_rfl⟩
def ti50 : TI := ⟨1, false, (TypeDesc.func #[3] #[3, 34] false), Value.nilFunc, 8, false, false, false⟩
theorem tf50 : TF Try.prog 50 ti50 := ⟨Try.sizeOf50, Try.isAgg50, Try.underlying50, Try.zeroValue50, by kernel_rfl, by kernel_rfl, by kernel_rfl, by kernel_rfl⟩
def ti51 : TI := ⟨1, false, (TypeDesc.func #[28, 3] #[4] false), Value.nilFunc, 8, false, false, false⟩
theorem tf51 : TF Try.prog 51 ti51 := ⟨Try.sizeOf51, Try.isAgg51, Try.underlying51, Try.zeroValue51, by kernel_rfl, by kernel_rfl, by kernel_rfl, by kernel_rfl⟩
def ti52 : TI := ⟨1, false, (TypeDesc.slice 56), (Value.slice none 0 0), 24, false, false, false⟩
theorem tf52 : TF Try.prog 52 ti52 := ⟨Try.sizeOf52, Try.isAgg52, Try.underlying52, Try.zeroValue52, by kernel_rfl, by kernel_rfl, by kernel_rfl, by kernel_rfl⟩
def ti53 : TI := ⟨1, false, (TypeDesc.func #[28] #[32] false), Value.nilFunc, 8, false, false, false⟩
theorem tf53 : TF Try.prog 53 ti53 := ⟨Try.sizeOf53, Try.isAgg53, Try.underlying53, Try.zeroValue53, by kernel_rfl, by kernel_rfl, by kernel_rfl, by kernel_rfl⟩
def ti54 : TI := ⟨1, false, (TypeDesc.func #[32, 28, 39] #[3] false), Value.nilFunc, 8, false, false, false⟩
theorem tf54 : TF Try.prog 54 ti54 := ⟨Try.sizeOf54, Try.isAgg54, Try.underlying54, Try.zeroValue54, by kernel_rfl, by kernel_rfl, by kernel_rfl, by kernel_rfl⟩
def ti55 : TI := ⟨6, true, (TypeDesc.struct #[{ name := "What", type := 3, offset := 0, embedded := false, tag := "", pkgPath := "", byteOffset := 0 }, { name := "At", type := 3, offset := 1, embedded := false, tag := "", pkgPath := "", byteOffset := 8 }, { name := "E", type := 41, offset := 2, embedded := false, tag := "", pkgPath := "", byteOffset := 16 }]), (Value.agg #[Value.int IntKind.i64 0, Value.int IntKind.i64 0, Value.int IntKind.u32 0, Value.int IntKind.u32 0, Value.int IntKind.i32 0, Value.bool false]), 32, false, false, true⟩
theorem tf55 : TF Try.prog 55 ti55 := ⟨Try.sizeOf55, Try.isAgg55, Try.underlying55, Try.zeroValue55, by kernel_rfl, by kernel_rfl, by kernel_rfl, by kernel_rfl⟩
def ti56 : TI := ⟨6, true, (TypeDesc.struct #[{ name := "What", type := 3, offset := 0, embedded := false, tag := "", pkgPath := "", byteOffset := 0 }, { name := "At", type := 3, offset := 1, embedded := false, tag := "", pkgPath := "", byteOffset := 8 }, { name := "E", type := 41, offset := 2, embedded := false, tag := "", pkgPath := "", byteOffset := 16 }]), (Value.agg #[Value.int IntKind.i64 0, Value.int IntKind.i64 0, Value.int IntKind.u32 0, Value.int IntKind.u32 0, Value.int IntKind.i32 0, Value.bool false]), 32, false, false, true⟩
theorem tf56 : TF Try.prog 56 ti56 := ⟨Try.sizeOf56, Try.isAgg56, Try.underlying56, Try.zeroValue56, by kernel_rfl, by kernel_rfl, by kernel_rfl, by kernel_rfl⟩
def ti57 : TI := ⟨1, false, (TypeDesc.func #[28, 39] #[3] false), Value.nilFunc, 8, false, false, false⟩
theorem tf57 : TF Try.prog 57 ti57 := ⟨Try.sizeOf57, Try.isAgg57, Try.underlying57, Try.zeroValue57, by kernel_rfl, by kernel_rfl, by kernel_rfl, by kernel_rfl⟩
def ti58 : TI := ⟨1, false, (TypeDesc.func #[34] #[3] false), Value.nilFunc, 8, false, false, false⟩
theorem tf58 : TF Try.prog 58 ti58 := ⟨Try.sizeOf58, Try.isAgg58, Try.underlying58, Try.zeroValue58, by kernel_rfl, by kernel_rfl, by kernel_rfl, by kernel_rfl⟩
def ti59 : TI := ⟨1, false, (TypeDesc.func #[28, 52] #[4] false), Value.nilFunc, 8, false, false, false⟩
theorem tf59 : TF Try.prog 59 ti59 := ⟨Try.sizeOf59, Try.isAgg59, Try.underlying59, Try.zeroValue59, by kernel_rfl, by kernel_rfl, by kernel_rfl, by kernel_rfl⟩
def ti60 : TI := ⟨1, false, (TypeDesc.slice 66), (Value.slice none 0 0), 24, false, false, false⟩
theorem tf60 : TF Try.prog 60 ti60 := ⟨Try.sizeOf60, Try.isAgg60, Try.underlying60, Try.zeroValue60, by kernel_rfl, by kernel_rfl, by kernel_rfl, by kernel_rfl⟩
def ti61 : TI := ⟨1, false, (TypeDesc.slice 3), (Value.slice none 0 0), 24, false, false, false⟩
theorem tf61 : TF Try.prog 61 ti61 := ⟨Try.sizeOf61, Try.isAgg61, Try.underlying61, Try.zeroValue61, by kernel_rfl, by kernel_rfl, by kernel_rfl, by kernel_rfl⟩
def ti62 : TI := ⟨1, false, (TypeDesc.func #[60] #[60] false), Value.nilFunc, 8, false, false, false⟩
theorem tf62 : TF Try.prog 62 ti62 := ⟨Try.sizeOf62, Try.isAgg62, Try.underlying62, Try.zeroValue62, by kernel_rfl, by kernel_rfl, by kernel_rfl, by kernel_rfl⟩
def ti63 : TI := ⟨1, false, (TypeDesc.slice 39), (Value.slice none 0 0), 24, false, false, false⟩
theorem tf63 : TF Try.prog 63 ti63 := ⟨Try.sizeOf63, Try.isAgg63, Try.underlying63, Try.zeroValue63, by kernel_rfl, by kernel_rfl, by kernel_rfl, by kernel_rfl⟩
def ti64 : TI := ⟨1, false, (TypeDesc.func #[60] #[63] false), Value.nilFunc, 8, false, false, false⟩
theorem tf64 : TF Try.prog 64 ti64 := ⟨Try.sizeOf64, Try.isAgg64, Try.underlying64, Try.zeroValue64, by kernel_rfl, by kernel_rfl, by kernel_rfl, by kernel_rfl⟩
def ti65 : TI := ⟨7, true, (TypeDesc.struct #[{ name := "Id", type := 39, offset := 0, embedded := false, tag := "", pkgPath := "", byteOffset := 0 }, { name := "Left", type := 39, offset := 2, embedded := false, tag := "", pkgPath := "", byteOffset := 8 }, { name := "Right", type := 39, offset := 4, embedded := false, tag := "", pkgPath := "", byteOffset := 16 }, { name := "Ch", type := 21, offset := 6, embedded := false, tag := "", pkgPath := "", byteOffset := 24 }]), (Value.agg #[Value.int IntKind.u32 0, Value.int IntKind.u32 0, Value.int IntKind.u32 0, Value.int IntKind.u32 0, Value.int IntKind.u32 0, Value.int IntKind.u32 0, Value.int IntKind.i32 0]), 28, false, false, true⟩
theorem tf65 : TF Try.prog 65 ti65 := ⟨Try.sizeOf65, Try.isAgg65, Try.underlying65, Try.zeroValue65, by kernel_rfl, by kernel_rfl, by kernel_rfl, by kernel_rfl⟩
def ti66 : TI := ⟨7, true, (TypeDesc.struct #[{ name := "Id", type := 39, offset := 0, embedded := false, tag := "", pkgPath := "", byteOffset := 0 }, { name := "Left", type := 39, offset := 2, embedded := false, tag := "", pkgPath := "", byteOffset := 8 }, { name := "Right", type := 39, offset := 4, embedded := false, tag := "", pkgPath := "", byteOffset := 16 }, { name := "Ch", type := 21, offset := 6, embedded := false, tag := "", pkgPath := "", byteOffset := 24 }]), (Value.agg #[Value.int IntKind.u32 0, Value.int IntKind.u32 0, Value.int IntKind.u32 0, Value.int IntKind.u32 0, Value.int IntKind.u32 0, Value.int IntKind.u32 0, Value.int IntKind.i32 0]), 28, false, false, true⟩
theorem tf66 : TF Try.prog 66 ti66 := ⟨Try.sizeOf66, Try.isAgg66, Try.underlying66, Try.zeroValue66, by kernel_rfl, by kernel_rfl, by kernel_rfl, by kernel_rfl⟩
def ti67 : TI := ⟨1, false, (TypeDesc.func #[60] #[4] false), Value.nilFunc, 8, false, false, false⟩
theorem tf67 : TF Try.prog 67 ti67 := ⟨Try.sizeOf67, Try.isAgg67, Try.underlying67, Try.zeroValue67, by kernel_rfl, by kernel_rfl, by kernel_rfl, by kernel_rfl⟩
def ti68 : TI := ⟨1, false, (TypeDesc.func #[63, 63] #[4] false), Value.nilFunc, 8, false, false, false⟩
theorem tf68 : TF Try.prog 68 ti68 := ⟨Try.sizeOf68, Try.isAgg68, Try.underlying68, Try.zeroValue68, by kernel_rfl, by kernel_rfl, by kernel_rfl, by kernel_rfl⟩
def ti69 : TI := ⟨1, false, (TypeDesc.func #[60, 61, 3] #[4] false), Value.nilFunc, 8, false, false, false⟩
theorem tf69 : TF Try.prog 69 ti69 := ⟨Try.sizeOf69, Try.isAgg69, Try.underlying69, Try.zeroValue69, by kernel_rfl, by kernel_rfl, by kernel_rfl, by kernel_rfl⟩
def ti70 : TI := ⟨1, false, (TypeDesc.func #[60, 3, 39] #[4] false), Value.nilFunc, 8, false, false, false⟩
theorem tf70 : TF Try.prog 70 ti70 := ⟨Try.sizeOf70, Try.isAgg70, Try.underlying70, Try.zeroValue70, by kernel_rfl, by kernel_rfl, by kernel_rfl, by kernel_rfl⟩
def ti71 : TI := ⟨3, true, (TypeDesc.struct #[{ name := "On", type := 39, offset := 0, embedded := false, tag := "", pkgPath := "", byteOffset := 0 }, { name := "Right", type := 4, offset := 2, embedded := false, tag := "", pkgPath := "", byteOffset := 8 }]), (Value.agg #[Value.int IntKind.u32 0, Value.int IntKind.u32 0, Value.bool false]), 12, false, false, true⟩
theorem tf71 : TF Try.prog 71 ti71 := ⟨Try.sizeOf71, Try.isAgg71, Try.underlying71, Try.zeroValue71, by kernel_rfl, by kernel_rfl, by kernel_rfl, by kernel_rfl⟩
def ti72 : TI := ⟨3, true, (TypeDesc.struct #[{ name := "On", type := 39, offset := 0, embedded := false, tag := "", pkgPath := "", byteOffset := 0 }, { name := "Right", type := 4, offset := 2, embedded := false, tag := "", pkgPath := "", byteOffset := 8 }]), (Value.agg #[Value.int IntKind.u32 0, Value.int IntKind.u32 0, Value.bool false]), 12, false, false, true⟩
theorem tf72 : TF Try.prog 72 ti72 := ⟨Try.sizeOf72, Try.isAgg72, Try.underlying72, Try.zeroValue72, by kernel_rfl, by kernel_rfl, by kernel_rfl, by kernel_rfl⟩
def ti73 : TI := ⟨1, false, (TypeDesc.func #[60, 66] #[72] false), Value.nilFunc, 8, false, false, false⟩
theorem tf73 : TF Try.prog 73 ti73 := ⟨Try.sizeOf73, Try.isAgg73, Try.underlying73, Try.zeroValue73, by kernel_rfl, by kernel_rfl, by kernel_rfl, by kernel_rfl⟩
def ti74 : TI := ⟨3, true, (TypeDesc.struct #[{ name := "On", type := 39, offset := 0, embedded := false, tag := "", pkgPath := "", byteOffset := 0 }, { name := "Right", type := 4, offset := 2, embedded := false, tag := "", pkgPath := "", byteOffset := 8 }]), (Value.agg #[Value.int IntKind.u32 0, Value.int IntKind.u32 0, Value.bool false]), 12, false, false, true⟩
theorem tf74 : TF Try.prog 74 ti74 := ⟨Try.sizeOf74, Try.isAgg74, Try.underlying74, Try.zeroValue74, by kernel_rfl, by kernel_rfl, by kernel_rfl, by kernel_rfl⟩
def ti75 : TI := ⟨1, false, (TypeDesc.func #[60, 66] #[74] false), Value.nilFunc, 8, false, false, false⟩
theorem tf75 : TF Try.prog 75 ti75 := ⟨Try.sizeOf75, Try.isAgg75, Try.underlying75, Try.zeroValue75, by kernel_rfl, by kernel_rfl, by kernel_rfl, by kernel_rfl⟩
def ti76 : TI := ⟨1, false, (TypeDesc.func #[60, 66] #[4] false), Value.nilFunc, 8, false, false, false⟩
theorem tf76 : TF Try.prog 76 ti76 := ⟨Try.sizeOf76, Try.isAgg76, Try.underlying76, Try.zeroValue76, by kernel_rfl, by kernel_rfl, by kernel_rfl, by kernel_rfl⟩
def ti77 : TI := ⟨1, false, (TypeDesc.slice 87), (Value.slice none 0 0), 24, false, false, false⟩
theorem tf77 : TF Try.prog 77 ti77 := ⟨Try.sizeOf77, Try.isAgg77, Try.underlying77, Try.zeroValue77, by kernel_rfl, by kernel_rfl, by kernel_rfl, by kernel_rfl⟩
def ti78 : TI := ⟨1, false, (TypeDesc.func #[77] #[77] false), Value.nilFunc, 8, false, false, false⟩
theorem tf78 : TF Try.prog 78 ti78 := ⟨Try.sizeOf78, Try.isAgg78, Try.underlying78, Try.zeroValue78, by kernel_rfl, by kernel_rfl, by kernel_rfl, by kernel_rfl⟩
def ti79 : TI := ⟨1, false, (TypeDesc.func #[77, 77] #[4] false), Value.nilFunc, 8, false, false, false⟩
theorem tf79 : TF Try.prog 79 ti79 := ⟨Try.sizeOf79, Try.isAgg79, Try.underlying79, Try.zeroValue79, by kernel_rfl, by kernel_rfl, by kernel_rfl, by kernel_rfl⟩
def ti80 : TI := ⟨1, false, (TypeDesc.func #[77, 77] #[77] false), Value.nilFunc, 8, false, false, false⟩
theorem tf80 : TF Try.prog 80 ti80 := ⟨Try.sizeOf80, Try.isAgg80, Try.underlying80, Try.zeroValue80, by kernel_rfl, by kernel_rfl, by kernel_rfl, by kernel_rfl⟩
def ti81 : TI := ⟨1, false, (TypeDesc.func #[77] #[4] false), Value.nilFunc, 8, false, false, false⟩
theorem tf81 : TF Try.prog 81 ti81 := ⟨Try.sizeOf81, Try.isAgg81, Try.underlying81, Try.zeroValue81, by kernel_rfl, by kernel_rfl, by kernel_rfl, by kernel_rfl⟩
def ti82 : TI := ⟨1, false, (TypeDesc.func #[77, 39] #[4] false), Value.nilFunc, 8, false, false, false⟩
theorem tf82 : TF Try.prog 82 ti82 := ⟨Try.sizeOf82, Try.isAgg82, Try.underlying82, Try.zeroValue82, by kernel_rfl, by kernel_rfl, by kernel_rfl, by kernel_rfl⟩
def ti83 : TI := ⟨1, false, (TypeDesc.int IntKind.u64), (Value.int IntKind.u64 0), 8, false, false, true⟩
theorem tf83 : TF Try.prog 83 ti83 := ⟨Try.sizeOf83, Try.isAgg83, Try.underlying83, Try.zeroValue83, by kernel_rfl, by kernel_rfl, by kernel_rfl, by kernel_rfl⟩
def ti84 : TI := ⟨1, false, (TypeDesc.func #[77] #[83] false), Value.nilFunc, 8, false, false, false⟩
theorem tf84 : TF Try.prog 84 ti84 := ⟨Try.sizeOf84, Try.isAgg84, Try.underlying84, Try.zeroValue84, by kernel_rfl, by kernel_rfl, by kernel_rfl, by kernel_rfl⟩
def ti85 : TI := ⟨1, false, (TypeDesc.func #[77, 77, 39] #[4] false), Value.nilFunc, 8, false, false, false⟩
theorem tf85 : TF Try.prog 85 ti85 := ⟨Try.sizeOf85, Try.isAgg85, Try.underlying85, Try.zeroValue85, by kernel_rfl, by kernel_rfl, by kernel_rfl, by kernel_rfl⟩
def ti86 : TI := ⟨3, true, (TypeDesc.struct #[{ name := "Client", type := 37, offset := 0, embedded := false, tag := "", pkgPath := "", byteOffset := 0 }, { name := "From", type := 37, offset := 1, embedded := false, tag := "", pkgPath := "", byteOffset := 4 }, { name := "To", type := 37, offset := 2, embedded := false, tag := "", pkgPath := "", byteOffset := 8 }]), (Value.agg #[Value.int IntKind.u32 0, Value.int IntKind.u32 0, Value.int IntKind.u32 0]), 12, false, false, true⟩
theorem tf86 : TF Try.prog 86 ti86 := ⟨Try.sizeOf86, Try.isAgg86, Try.underlying86, Try.zeroValue86, by kernel_rfl, by kernel_rfl, by kernel_rfl, by kernel_rfl⟩
def ti87 : TI := ⟨3, true, (TypeDesc.struct #[{ name := "Client", type := 37, offset := 0, embedded := false, tag := "", pkgPath := "", byteOffset := 0 }, { name := "From", type := 37, offset := 1, embedded := false, tag := "", pkgPath := "", byteOffset := 4 }, { name := "To", type := 37, offset := 2, embedded := false, tag := "", pkgPath := "", byteOffset := 8 }]), (Value.agg #[Value.int IntKind.u32 0, Value.int IntKind.u32 0, Value.int IntKind.u32 0]), 12, false, false, true⟩
theorem tf87 : TF Try.prog 87 ti87 := ⟨Try.sizeOf87, Try.isAgg87, Try.underlying87, Try.zeroValue87, by kernel_rfl, by kernel_rfl, by kernel_rfl, by kernel_rfl⟩
def ti88 : TI := ⟨1, false, (TypeDesc.func #[22, 37, 37] #[22] false), Value.nilFunc, 8, false, false, false⟩
theorem tf88 : TF Try.prog 88 ti88 := ⟨Try.sizeOf88, Try.isAgg88, Try.underlying88, Try.zeroValue88, by kernel_rfl, by kernel_rfl, by kernel_rfl, by kernel_rfl⟩
def ti89 : TI := ⟨2, true, (TypeDesc.struct #[{ name := "Client", type := 37, offset := 0, embedded := false, tag := "", pkgPath := "", byteOffset := 0 }, { name := "Next", type := 37, offset := 1, embedded := false, tag := "", pkgPath := "", byteOffset := 4 }]), (Value.agg #[Value.int IntKind.u32 0, Value.int IntKind.u32 0]), 8, false, false, true⟩
theorem tf89 : TF Try.prog 89 ti89 := ⟨Try.sizeOf89, Try.isAgg89, Try.underlying89, Try.zeroValue89, by kernel_rfl, by kernel_rfl, by kernel_rfl, by kernel_rfl⟩
def ti90 : TI := ⟨2, true, (TypeDesc.struct #[{ name := "Client", type := 37, offset := 0, embedded := false, tag := "", pkgPath := "", byteOffset := 0 }, { name := "Next", type := 37, offset := 1, embedded := false, tag := "", pkgPath := "", byteOffset := 4 }]), (Value.agg #[Value.int IntKind.u32 0, Value.int IntKind.u32 0]), 8, false, false, true⟩
theorem tf90 : TF Try.prog 90 ti90 := ⟨Try.sizeOf90, Try.isAgg90, Try.underlying90, Try.zeroValue90, by kernel_rfl, by kernel_rfl, by kernel_rfl, by kernel_rfl⟩
def ti91 : TI := ⟨1, false, (TypeDesc.func #[22, 37] #[37] false), Value.nilFunc, 8, false, false, false⟩
theorem tf91 : TF Try.prog 91 ti91 := ⟨Try.sizeOf91, Try.isAgg91, Try.underlying91, Try.zeroValue91, by kernel_rfl, by kernel_rfl, by kernel_rfl, by kernel_rfl⟩
def ti92 : TI := ⟨1, false, (TypeDesc.func #[22] #[22] false), Value.nilFunc, 8, false, false, false⟩
theorem tf92 : TF Try.prog 92 ti92 := ⟨Try.sizeOf92, Try.isAgg92, Try.underlying92, Try.zeroValue92, by kernel_rfl, by kernel_rfl, by kernel_rfl, by kernel_rfl⟩
def ti93 : TI := ⟨1, false, (TypeDesc.func #[22, 94] #[4] false), Value.nilFunc, 8, false, false, false⟩
theorem tf93 : TF Try.prog 93 ti93 := ⟨Try.sizeOf93, Try.isAgg93, Try.underlying93, Try.zeroValue93, by kernel_rfl, by kernel_rfl, by kernel_rfl, by kernel_rfl⟩
def ti94 : TI := ⟨1, false, (TypeDesc.func #[90] #[4] false), Value.nilFunc, 8, false, false, false⟩
theorem tf94 : TF Try.prog 94 ti94 := ⟨Try.sizeOf94, Try.isAgg94, Try.underlying94, Try.zeroValue94, by kernel_rfl, by kernel_rfl, by kernel_rfl, by kernel_rfl⟩
def ti95 : TI := ⟨1, false, (TypeDesc.int IntKind.i64), (Value.int IntKind.i64 0), 8, false, false, true⟩
theorem tf95 : TF Try.prog 95 ti95 := ⟨Try.sizeOf95, Try.isAgg95, Try.underlying95, Try.zeroValue95, by kernel_rfl, by kernel_rfl, by kernel_rfl, by kernel_rfl⟩
def ti96 : TI := ⟨2, true, (TypeDesc.struct #[{ name := "l", type := 28, offset := 0, embedded := false, tag := "", pkgPath := "surcingle/index", byteOffset := 0 }, { name := "shown", type := 3, offset := 1, embedded := false, tag := "", pkgPath := "surcingle/index", byteOffset := 24 }]), (Value.agg #[Value.slice none 0 0, Value.int IntKind.i64 0]), 32, false, false, false⟩
theorem tf96 : TF Try.prog 96 ti96 := ⟨Try.sizeOf96, Try.isAgg96, Try.underlying96, Try.zeroValue96, by kernel_rfl, by kernel_rfl, by kernel_rfl, by kernel_rfl⟩
def ti97 : TI := ⟨2, true, (TypeDesc.struct #[{ name := "l", type := 28, offset := 0, embedded := false, tag := "", pkgPath := "surcingle/index", byteOffset := 0 }, { name := "shown", type := 3, offset := 1, embedded := false, tag := "", pkgPath := "surcingle/index", byteOffset := 24 }]), (Value.agg #[Value.slice none 0 0, Value.int IntKind.i64 0]), 32, false, false, false⟩
theorem tf97 : TF Try.prog 97 ti97 := ⟨Try.sizeOf97, Try.isAgg97, Try.underlying97, Try.zeroValue97, by kernel_rfl, by kernel_rfl, by kernel_rfl, by kernel_rfl⟩
def ti98 : TI := ⟨1, false, (TypeDesc.func #[28, 3, 28] #[28] true), Value.nilFunc, 8, false, false, false⟩
theorem tf98 : TF Try.prog 98 ti98 := ⟨Try.sizeOf98, Try.isAgg98, Try.underlying98, Try.zeroValue98, by kernel_rfl, by kernel_rfl, by kernel_rfl, by kernel_rfl⟩
def ti99 : TI := ⟨1, false, (TypeDesc.func #[3, 30] #[32] true), Value.nilFunc, 8, false, false, false⟩
theorem tf99 : TF Try.prog 99 ti99 := ⟨Try.sizeOf99, Try.isAgg99, Try.underlying99, Try.zeroValue99, by kernel_rfl, by kernel_rfl, by kernel_rfl, by kernel_rfl⟩
def ti100 : TI := ⟨1, false, (TypeDesc.func #[28] #[97] false), Value.nilFunc, 8, false, false, false⟩
theorem tf100 : TF Try.prog 100 ti100 := ⟨Try.sizeOf100, Try.isAgg100, Try.underlying100, Try.zeroValue100, by kernel_rfl, by kernel_rfl, by kernel_rfl, by kernel_rfl⟩
def ti102 : TI := ⟨1, false, (TypeDesc.func #[39] #[3, 3, 4] false), Value.nilFunc, 8, false, false, false⟩
theorem tf102 : TF Try.prog 102 ti102 := ⟨Try.sizeOf102, Try.isAgg102, Try.underlying102, Try.zeroValue102, by kernel_rfl, by kernel_rfl, by kernel_rfl, by kernel_rfl⟩
def ti103 : TI := ⟨1, false, (TypeDesc.func #[144] #[] false), Value.nilFunc, 8, false, false, false⟩
theorem tf103 : TF Try.prog 103 ti103 := ⟨Try.sizeOf103, Try.isAgg103, Try.underlying103, Try.zeroValue103, by kernel_rfl, by kernel_rfl, by kernel_rfl, by kernel_rfl⟩
def ti104 : TI := ⟨1, false, (TypeDesc.func #[144] #[] false), Value.nilFunc, 8, false, false, false⟩
theorem tf104 : TF Try.prog 104 ti104 := ⟨Try.sizeOf104, Try.isAgg104, Try.underlying104, Try.zeroValue104, by kernel_rfl, by kernel_rfl, by kernel_rfl, by kernel_rfl⟩
def ti105 : TI := ⟨1, false, (TypeDesc.func #[28, 3] #[104] false), Value.nilFunc, 8, false, false, false⟩
theorem tf105 : TF Try.prog 105 ti105 := ⟨Try.sizeOf105, Try.isAgg105, Try.underlying105, Try.zeroValue105, by kernel_rfl, by kernel_rfl, by kernel_rfl, by kernel_rfl⟩
def ti106 : TI := ⟨1, false, (TypeDesc.func #[30] #[32] false), Value.nilFunc, 8, false, false, false⟩
theorem tf106 : TF Try.prog 106 ti106 := ⟨Try.sizeOf106, Try.isAgg106, Try.underlying106, Try.zeroValue106, by kernel_rfl, by kernel_rfl, by kernel_rfl, by kernel_rfl⟩
def ti107 : TI := ⟨1, false, (TypeDesc.func #[28] #[61] false), Value.nilFunc, 8, false, false, false⟩
theorem tf107 : TF Try.prog 107 ti107 := ⟨Try.sizeOf107, Try.isAgg107, Try.underlying107, Try.zeroValue107, by kernel_rfl, by kernel_rfl, by kernel_rfl, by kernel_rfl⟩
def ti108 : TI := ⟨1, false, (TypeDesc.func #[28, 28] #[4] false), Value.nilFunc, 8, false, false, false⟩
theorem tf108 : TF Try.prog 108 ti108 := ⟨Try.sizeOf108, Try.isAgg108, Try.underlying108, Try.zeroValue108, by kernel_rfl, by kernel_rfl, by kernel_rfl, by kernel_rfl⟩
def ti109 : TI := ⟨1, false, (TypeDesc.func #[] #[28] false), Value.nilFunc, 8, false, false, false⟩
theorem tf109 : TF Try.prog 109 ti109 := ⟨Try.sizeOf109, Try.isAgg109, Try.underlying109, Try.zeroValue109, by kernel_rfl, by kernel_rfl, by kernel_rfl, by kernel_rfl⟩
def ti110 : TI := ⟨1, false, (TypeDesc.func #[21] #[4] false), Value.nilFunc, 8, false, false, false⟩
theorem tf110 : TF Try.prog 110 ti110 := ⟨Try.sizeOf110, Try.isAgg110, Try.underlying110, Try.zeroValue110, by kernel_rfl, by kernel_rfl, by kernel_rfl, by kernel_rfl⟩
def ti111 : TI := ⟨1, false, (TypeDesc.map 39 72), (Value.map none), 8, false, false, false⟩
theorem tf111 : TF Try.prog 111 ti111 := ⟨Try.sizeOf111, Try.isAgg111, Try.underlying111, Try.zeroValue111, by kernel_rfl, by kernel_rfl, by kernel_rfl, by kernel_rfl⟩
def ti112 : TI := ⟨1, false, (TypeDesc.func #[60] #[111] false), Value.nilFunc, 8, false, false, false⟩
theorem tf112 : TF Try.prog 112 ti112 := ⟨Try.sizeOf112, Try.isAgg112, Try.underlying112, Try.zeroValue112, by kernel_rfl, by kernel_rfl, by kernel_rfl, by kernel_rfl⟩
def ti113 : TI := ⟨1, false, (TypeDesc.map 72 63), (Value.map none), 8, false, false, false⟩
theorem tf113 : TF Try.prog 113 ti113 := ⟨Try.sizeOf113, Try.isAgg113, Try.underlying113, Try.zeroValue113, by kernel_rfl, by kernel_rfl, by kernel_rfl, by kernel_rfl⟩
def ti114 : TI := ⟨1, false, (TypeDesc.func #[63, 115] #[] false), Value.nilFunc, 8, false, false, false⟩
theorem tf114 : TF Try.prog 114 ti114 := ⟨Try.sizeOf114, Try.isAgg114, Try.underlying114, Try.zeroValue114, by kernel_rfl, by kernel_rfl, by kernel_rfl, by kernel_rfl⟩
def ti115 : TI := ⟨1, false, (TypeDesc.func #[39, 39] #[3] false), Value.nilFunc, 8, false, false, false⟩
theorem tf115 : TF Try.prog 115 ti115 := ⟨Try.sizeOf115, Try.isAgg115, Try.underlying115, Try.zeroValue115, by kernel_rfl, by kernel_rfl, by kernel_rfl, by kernel_rfl⟩
def ti116 : TI := ⟨1, false, (TypeDesc.func #[39] #[] false), Value.nilFunc, 8, false, false, false⟩
theorem tf116 : TF Try.prog 116 ti116 := ⟨Try.sizeOf116, Try.isAgg116, Try.underlying116, Try.zeroValue116, by kernel_rfl, by kernel_rfl, by kernel_rfl, by kernel_rfl⟩
def ti117 : TI := ⟨1, false, (TypeDesc.func #[72] #[] false), Value.nilFunc, 8, false, false, false⟩
theorem tf117 : TF Try.prog 117 ti117 := ⟨Try.sizeOf117, Try.isAgg117, Try.underlying117, Try.zeroValue117, by kernel_rfl, by kernel_rfl, by kernel_rfl, by kernel_rfl⟩
def ti118 : TI := ⟨1, false, (TypeDesc.map 39 4), (Value.map none), 8, false, false, false⟩
theorem tf118 : TF Try.prog 118 ti118 := ⟨Try.sizeOf118, Try.isAgg118, Try.underlying118, Try.zeroValue118, by kernel_rfl, by kernel_rfl, by kernel_rfl, by kernel_rfl⟩
def ti119 : TI := ⟨1, false, (TypeDesc.func #[39] #[4] false), Value.nilFunc, 8, false, false, false⟩
theorem tf119 : TF Try.prog 119 ti119 := ⟨Try.sizeOf119, Try.isAgg119, Try.underlying119, Try.zeroValue119, by kernel_rfl, by kernel_rfl, by kernel_rfl, by kernel_rfl⟩
def ti120 : TI := ⟨1, false, (TypeDesc.func #[60, 39] #[3] false), Value.nilFunc, 8, false, false, false⟩
theorem tf120 : TF Try.prog 120 ti120 := ⟨Try.sizeOf120, Try.isAgg120, Try.underlying120, Try.zeroValue120, by kernel_rfl, by kernel_rfl, by kernel_rfl, by kernel_rfl⟩
def ti121 : TI := ⟨1, false, (TypeDesc.func #[60, 122, 74] #[63] false), Value.nilFunc, 8, false, false, false⟩
theorem tf121 : TF Try.prog 121 ti121 := ⟨Try.sizeOf121, Try.isAgg121, Try.underlying121, Try.zeroValue121, by kernel_rfl, by kernel_rfl, by kernel_rfl, by kernel_rfl⟩
def ti122 : TI := ⟨1, false, (TypeDesc.slice 74), (Value.slice none 0 0), 24, false, false, false⟩
theorem tf122 : TF Try.prog 122 ti122 := ⟨Try.sizeOf122, Try.isAgg122, Try.underlying122, Try.zeroValue122, by kernel_rfl, by kernel_rfl, by kernel_rfl, by kernel_rfl⟩
def ti123 : TI := ⟨1, false, (TypeDesc.func #[60] #[122] false), Value.nilFunc, 8, false, false, false⟩
theorem tf123 : TF Try.prog 123 ti123 := ⟨Try.sizeOf123, Try.isAgg123, Try.underlying123, Try.zeroValue123, by kernel_rfl, by kernel_rfl, by kernel_rfl, by kernel_rfl⟩
def ti124 : TI := ⟨1, false, (TypeDesc.func #[111, 66] #[72] false), Value.nilFunc, 8, false, false, false⟩
theorem tf124 : TF Try.prog 124 ti124 := ⟨Try.sizeOf124, Try.isAgg124, Try.underlying124, Try.zeroValue124, by kernel_rfl, by kernel_rfl, by kernel_rfl, by kernel_rfl⟩
def ti125 : TI := ⟨1, false, (TypeDesc.func #[60, 122, 66] #[74] false), Value.nilFunc, 8, false, false, false⟩
theorem tf125 : TF Try.prog 125 ti125 := ⟨Try.sizeOf125, Try.isAgg125, Try.underlying125, Try.zeroValue125, by kernel_rfl, by kernel_rfl, by kernel_rfl, by kernel_rfl⟩
def ti126 : TI := ⟨1, false, (TypeDesc.func #[77, 87] #[77] false), Value.nilFunc, 8, false, false, false⟩
theorem tf126 : TF Try.prog 126 ti126 := ⟨Try.sizeOf126, Try.isAgg126, Try.underlying126, Try.zeroValue126, by kernel_rfl, by kernel_rfl, by kernel_rfl, by kernel_rfl⟩
def ti127 : TI := ⟨1, false, (TypeDesc.func #[77, 128] #[77] false), Value.nilFunc, 8, false, false, false⟩
theorem tf127 : TF Try.prog 127 ti127 := ⟨Try.sizeOf127, Try.isAgg127, Try.underlying127, Try.zeroValue127, by kernel_rfl, by kernel_rfl, by kernel_rfl, by kernel_rfl⟩
def ti128 : TI := ⟨1, false, (TypeDesc.func #[87] #[4] false), Value.nilFunc, 8, false, false, false⟩
theorem tf128 : TF Try.prog 128 ti128 := ⟨Try.sizeOf128, Try.isAgg128, Try.underlying128, Try.zeroValue128, by kernel_rfl, by kernel_rfl, by kernel_rfl, by kernel_rfl⟩
def ti129 : TI := ⟨1, false, (TypeDesc.func #[77, 132] #[] false), Value.nilFunc, 8, false, false, false⟩
theorem tf129 : TF Try.prog 129 ti129 := ⟨Try.sizeOf129, Try.isAgg129, Try.underlying129, Try.zeroValue129, by kernel_rfl, by kernel_rfl, by kernel_rfl, by kernel_rfl⟩
def ti130 : TI := ⟨1, false, (TypeDesc.func #[61] #[3] true), Value.nilFunc, 8, false, false, false⟩
theorem tf130 : TF Try.prog 130 ti130 := ⟨Try.sizeOf130, Try.isAgg130, Try.underlying130, Try.zeroValue130, by kernel_rfl, by kernel_rfl, by kernel_rfl, by kernel_rfl⟩
def ti131 : TI := ⟨1, false, (TypeDesc.func #[37, 37] #[3] false), Value.nilFunc, 8, false, false, false⟩
theorem tf131 : TF Try.prog 131 ti131 := ⟨Try.sizeOf131, Try.isAgg131, Try.underlying131, Try.zeroValue131, by kernel_rfl, by kernel_rfl, by kernel_rfl, by kernel_rfl⟩
def ti132 : TI := ⟨1, false, (TypeDesc.func #[87, 87] #[3] false), Value.nilFunc, 8, false, false, false⟩
theorem tf132 : TF Try.prog 132 ti132 := ⟨Try.sizeOf132, Try.isAgg132, Try.underlying132, Try.zeroValue132, by kernel_rfl, by kernel_rfl, by kernel_rfl, by kernel_rfl⟩
def ti133 : TI := ⟨1, false, (TypeDesc.func #[154] #[77] true), Value.nilFunc, 8, false, false, false⟩
theorem tf133 : TF Try.prog 133 ti133 := ⟨Try.sizeOf133, Try.isAgg133, Try.underlying133, Try.zeroValue133, by kernel_rfl, by kernel_rfl, by kernel_rfl, by kernel_rfl⟩
def ti134 : TI := ⟨1, false, (TypeDesc.func #[77, 128] #[4] false), Value.nilFunc, 8, false, false, false⟩
theorem tf134 : TF Try.prog 134 ti134 := ⟨Try.sizeOf134, Try.isAgg134, Try.underlying134, Try.zeroValue134, by kernel_rfl, by kernel_rfl, by kernel_rfl, by kernel_rfl⟩
def ti135 : TI := ⟨1, false, (TypeDesc.func #[22, 37] #[3, 4] false), Value.nilFunc, 8, false, false, false⟩
theorem tf135 : TF Try.prog 135 ti135 := ⟨Try.sizeOf135, Try.isAgg135, Try.underlying135, Try.zeroValue135, by kernel_rfl, by kernel_rfl, by kernel_rfl, by kernel_rfl⟩
def ti136 : TI := ⟨1, false, (TypeDesc.func #[22, 3, 3] #[22] false), Value.nilFunc, 8, false, false, false⟩
theorem tf136 : TF Try.prog 136 ti136 := ⟨Try.sizeOf136, Try.isAgg136, Try.underlying136, Try.zeroValue136, by kernel_rfl, by kernel_rfl, by kernel_rfl, by kernel_rfl⟩
def ti137 : TI := ⟨1, false, (TypeDesc.func #[22, 3, 22] #[22] true), Value.nilFunc, 8, false, false, false⟩
theorem tf137 : TF Try.prog 137 ti137 := ⟨Try.sizeOf137, Try.isAgg137, Try.underlying137, Try.zeroValue137, by kernel_rfl, by kernel_rfl, by kernel_rfl, by kernel_rfl⟩
def ti138 : TI := ⟨1, false, (TypeDesc.func #[22, 94] #[3] false), Value.nilFunc, 8, false, false, false⟩
theorem tf138 : TF Try.prog 138 ti138 := ⟨Try.sizeOf138, Try.isAgg138, Try.underlying138, Try.zeroValue138, by kernel_rfl, by kernel_rfl, by kernel_rfl, by kernel_rfl⟩
def ti139 : TI := ⟨1, false, (TypeDesc.func #[28, 3] #[] false), Value.nilFunc, 8, false, false, false⟩
theorem tf139 : TF Try.prog 139 ti139 := ⟨Try.sizeOf139, Try.isAgg139, Try.underlying139, Try.zeroValue139, by kernel_rfl, by kernel_rfl, by kernel_rfl, by kernel_rfl⟩
def ti140 : TI := ⟨1, false, (TypeDesc.func #[30, 3, 3, 30] #[30] true), Value.nilFunc, 8, false, false, false⟩
theorem tf140 : TF Try.prog 140 ti140 := ⟨Try.sizeOf140, Try.isAgg140, Try.underlying140, Try.zeroValue140, by kernel_rfl, by kernel_rfl, by kernel_rfl, by kernel_rfl⟩
def ti141 : TI := ⟨1, false, (TypeDesc.func #[30] #[30] false), Value.nilFunc, 8, false, false, false⟩
theorem tf141 : TF Try.prog 141 ti141 := ⟨Try.sizeOf141, Try.isAgg141, Try.underlying141, Try.zeroValue141, by kernel_rfl, by kernel_rfl, by kernel_rfl, by kernel_rfl⟩
def ti142 : TI := ⟨1, false, (TypeDesc.func #[28, 143] #[3] false), Value.nilFunc, 8, false, false, false⟩
theorem tf142 : TF Try.prog 142 ti142 := ⟨Try.sizeOf142, Try.isAgg142, Try.underlying142, Try.zeroValue142, by kernel_rfl, by kernel_rfl, by kernel_rfl, by kernel_rfl⟩
def ti143 : TI := ⟨1, false, (TypeDesc.func #[41] #[4] false), Value.nilFunc, 8, false, false, false⟩
theorem tf143 : TF Try.prog 143 ti143 := ⟨Try.sizeOf143, Try.isAgg143, Try.underlying143, Try.zeroValue143, by kernel_rfl, by kernel_rfl, by kernel_rfl, by kernel_rfl⟩
def ti144 : TI := ⟨1, false, (TypeDesc.func #[28] #[4] false), Value.nilFunc, 8, false, false, false⟩
theorem tf144 : TF Try.prog 144 ti144 := ⟨Try.sizeOf144, Try.isAgg144, Try.underlying144, Try.zeroValue144, by kernel_rfl, by kernel_rfl, by kernel_rfl, by kernel_rfl⟩
def ti145 : TI := ⟨1, false, (TypeDesc.func #[63, 3, 3, 3, 115] #[] false), Value.nilFunc, 8, false, false, false⟩
theorem tf145 : TF Try.prog 145 ti145 := ⟨Try.sizeOf145, Try.isAgg145, Try.underlying145, Try.zeroValue145, by kernel_rfl, by kernel_rfl, by kernel_rfl, by kernel_rfl⟩
def ti146 : TI := ⟨1, false, (TypeDesc.func #[147] #[3] false), Value.nilFunc, 8, false, false, false⟩
theorem tf146 : TF Try.prog 146 ti146 := ⟨Try.sizeOf146, Try.isAgg146, Try.underlying146, Try.zeroValue146, by kernel_rfl, by kernel_rfl, by kernel_rfl, by kernel_rfl⟩
def ti147 : TI := ⟨1, false, (TypeDesc.int IntKind.u64), (Value.int IntKind.u64 0), 8, false, false, true⟩
theorem tf147 : TF Try.prog 147 ti147 := ⟨Try.sizeOf147, Try.isAgg147, Try.underlying147, Try.zeroValue147, by kernel_rfl, by kernel_rfl, by kernel_rfl, by kernel_rfl⟩
def ti148 : TI := ⟨1, false, (TypeDesc.slice 4), (Value.slice none 0 0), 24, false, false, false⟩
theorem tf148 : TF Try.prog 148 ti148 := ⟨Try.sizeOf148, Try.isAgg148, Try.underlying148, Try.zeroValue148, by kernel_rfl, by kernel_rfl, by kernel_rfl, by kernel_rfl⟩
def ti149 : TI := ⟨1, false, (TypeDesc.func #[39, 39] #[4] false), Value.nilFunc, 8, false, false, false⟩
theorem tf149 : TF Try.prog 149 ti149 := ⟨Try.sizeOf149, Try.isAgg149, Try.underlying149, Try.zeroValue149, by kernel_rfl, by kernel_rfl, by kernel_rfl, by kernel_rfl⟩
def ti150 : TI := ⟨1, false, (TypeDesc.func #[60, 122, 39, 39] #[4] false), Value.nilFunc, 8, false, false, false⟩
theorem tf150 : TF Try.prog 150 ti150 := ⟨Try.sizeOf150, Try.isAgg150, Try.underlying150, Try.zeroValue150, by kernel_rfl, by kernel_rfl, by kernel_rfl, by kernel_rfl⟩
def ti151 : TI := ⟨1, false, (TypeDesc.func #[77, 128] #[3] false), Value.nilFunc, 8, false, false, false⟩
theorem tf151 : TF Try.prog 151 ti151 := ⟨Try.sizeOf151, Try.isAgg151, Try.underlying151, Try.zeroValue151, by kernel_rfl, by kernel_rfl, by kernel_rfl, by kernel_rfl⟩
def ti152 : TI := ⟨1, false, (TypeDesc.func #[77, 3, 3, 3, 132] #[] false), Value.nilFunc, 8, false, false, false⟩
theorem tf152 : TF Try.prog 152 ti152 := ⟨Try.sizeOf152, Try.isAgg152, Try.underlying152, Try.zeroValue152, by kernel_rfl, by kernel_rfl, by kernel_rfl, by kernel_rfl⟩
def ti153 : TI := ⟨1, false, (TypeDesc.func #[37] #[4] false), Value.nilFunc, 8, false, false, false⟩
theorem tf153 : TF Try.prog 153 ti153 := ⟨Try.sizeOf153, Try.isAgg153, Try.underlying153, Try.zeroValue153, by kernel_rfl, by kernel_rfl, by kernel_rfl, by kernel_rfl⟩
def ti154 : TI := ⟨1, false, (TypeDesc.slice 77), (Value.slice none 0 0), 24, false, false, false⟩
theorem tf154 : TF Try.prog 154 ti154 := ⟨Try.sizeOf154, Try.isAgg154, Try.underlying154, Try.zeroValue154, by kernel_rfl, by kernel_rfl, by kernel_rfl, by kernel_rfl⟩
def ti155 : TI := ⟨1, false, (TypeDesc.func #[77, 3] #[77] false), Value.nilFunc, 8, false, false, false⟩
theorem tf155 : TF Try.prog 155 ti155 := ⟨Try.sizeOf155, Try.isAgg155, Try.underlying155, Try.zeroValue155, by kernel_rfl, by kernel_rfl, by kernel_rfl, by kernel_rfl⟩
def ti156 : TI := ⟨1, false, (TypeDesc.func #[22, 37, 157] #[3, 4] false), Value.nilFunc, 8, false, false, false⟩
theorem tf156 : TF Try.prog 156 ti156 := ⟨Try.sizeOf156, Try.isAgg156, Try.underlying156, Try.zeroValue156, by kernel_rfl, by kernel_rfl, by kernel_rfl, by kernel_rfl⟩
def ti157 : TI := ⟨1, false, (TypeDesc.func #[90, 37] #[3] false), Value.nilFunc, 8, false, false, false⟩
theorem tf157 : TF Try.prog 157 ti157 := ⟨Try.sizeOf157, Try.isAgg157, Try.underlying157, Try.zeroValue157, by kernel_rfl, by kernel_rfl, by kernel_rfl, by kernel_rfl⟩
def ti158 : TI := ⟨1, false, (TypeDesc.func #[22, 3] #[] false), Value.nilFunc, 8, false, false, false⟩
theorem tf158 : TF Try.prog 158 ti158 := ⟨Try.sizeOf158, Try.isAgg158, Try.underlying158, Try.zeroValue158, by kernel_rfl, by kernel_rfl, by kernel_rfl, by kernel_rfl⟩
def ti159 : TI := ⟨1, false, (TypeDesc.func #[30, 3, 30] #[30] true), Value.nilFunc, 8, false, false, false⟩
theorem tf159 : TF Try.prog 159 ti159 := ⟨Try.sizeOf159, Try.isAgg159, Try.underlying159, Try.zeroValue159, by kernel_rfl, by kernel_rfl, by kernel_rfl, by kernel_rfl⟩
def ti160 : TI := ⟨1, false, (TypeDesc.func #[30, 30] #[4] false), Value.nilFunc, 8, false, false, false⟩
theorem tf160 : TF Try.prog 160 ti160 := ⟨Try.sizeOf160, Try.isAgg160, Try.underlying160, Try.zeroValue160, by kernel_rfl, by kernel_rfl, by kernel_rfl, by kernel_rfl⟩
def ti161 : TI := ⟨1, false, (TypeDesc.func #[30, 3] #[] false), Value.nilFunc, 8, false, false, false⟩
theorem tf161 : TF Try.prog 161 ti161 := ⟨Try.sizeOf161, Try.isAgg161, Try.underlying161, Try.zeroValue161, by kernel_rfl, by kernel_rfl, by kernel_rfl, by kernel_rfl⟩
def ti162 : TI := ⟨1, false, (TypeDesc.func #[30, 30] #[3] false), Value.nilFunc, 8, false, false, false⟩
theorem tf162 : TF Try.prog 162 ti162 := ⟨Try.sizeOf162, Try.isAgg162, Try.underlying162, Try.zeroValue162, by kernel_rfl, by kernel_rfl, by kernel_rfl, by kernel_rfl⟩
def ti163 : TI := ⟨1, false, (TypeDesc.func #[63, 3, 3, 115] #[] false), Value.nilFunc, 8, false, false, false⟩
theorem tf163 : TF Try.prog 163 ti163 := ⟨Try.sizeOf163, Try.isAgg163, Try.underlying163, Try.zeroValue163, by kernel_rfl, by kernel_rfl, by kernel_rfl, by kernel_rfl⟩
def ti164 : TI := ⟨1, false, (TypeDesc.int IntKind.i64), (Value.int IntKind.i64 0), 8, false, false, true⟩
theorem tf164 : TF Try.prog 164 ti164 := ⟨Try.sizeOf164, Try.isAgg164, Try.underlying164, Try.zeroValue164, by kernel_rfl, by kernel_rfl, by kernel_rfl, by kernel_rfl⟩
def ti166 : TI := ⟨1, false, (TypeDesc.func #[63, 3, 3, 115] #[3, 164] false), Value.nilFunc, 8, false, false, false⟩
theorem tf166 : TF Try.prog 166 ti166 := ⟨Try.sizeOf166, Try.isAgg166, Try.underlying166, Try.zeroValue166, by kernel_rfl, by kernel_rfl, by kernel_rfl, by kernel_rfl⟩
def ti167 : TI := ⟨1, false, (TypeDesc.func #[63, 3, 3, 115] #[4] false), Value.nilFunc, 8, false, false, false⟩
theorem tf167 : TF Try.prog 167 ti167 := ⟨Try.sizeOf167, Try.isAgg167, Try.underlying167, Try.zeroValue167, by kernel_rfl, by kernel_rfl, by kernel_rfl, by kernel_rfl⟩
def ti168 : TI := ⟨1, false, (TypeDesc.func #[63, 3, 3, 3, 115] #[3] false), Value.nilFunc, 8, false, false, false⟩
theorem tf168 : TF Try.prog 168 ti168 := ⟨Try.sizeOf168, Try.isAgg168, Try.underlying168, Try.zeroValue168, by kernel_rfl, by kernel_rfl, by kernel_rfl, by kernel_rfl⟩
def ti169 : TI := ⟨1, false, (TypeDesc.func #[63, 3, 3, 3, 115] #[3, 4] false), Value.nilFunc, 8, false, false, false⟩
theorem tf169 : TF Try.prog 169 ti169 := ⟨Try.sizeOf169, Try.isAgg169, Try.underlying169, Try.zeroValue169, by kernel_rfl, by kernel_rfl, by kernel_rfl, by kernel_rfl⟩
def ti170 : TI := ⟨1, false, (TypeDesc.func #[37] #[3] false), Value.nilFunc, 8, false, false, false⟩
theorem tf170 : TF Try.prog 170 ti170 := ⟨Try.sizeOf170, Try.isAgg170, Try.underlying170, Try.zeroValue170, by kernel_rfl, by kernel_rfl, by kernel_rfl, by kernel_rfl⟩
def ti171 : TI := ⟨1, false, (TypeDesc.func #[83] #[3] false), Value.nilFunc, 8, false, false, false⟩
theorem tf171 : TF Try.prog 171 ti171 := ⟨Try.sizeOf171, Try.isAgg171, Try.underlying171, Try.zeroValue171, by kernel_rfl, by kernel_rfl, by kernel_rfl, by kernel_rfl⟩
def ti172 : TI := ⟨1, false, (TypeDesc.func #[77, 3, 3, 132] #[] false), Value.nilFunc, 8, false, false, false⟩
theorem tf172 : TF Try.prog 172 ti172 := ⟨Try.sizeOf172, Try.isAgg172, Try.underlying172, Try.zeroValue172, by kernel_rfl, by kernel_rfl, by kernel_rfl, by kernel_rfl⟩
def ti173 : TI := ⟨1, false, (TypeDesc.func #[77, 3, 3, 132] #[3, 164] false), Value.nilFunc, 8, false, false, false⟩
theorem tf173 : TF Try.prog 173 ti173 := ⟨Try.sizeOf173, Try.isAgg173, Try.underlying173, Try.zeroValue173, by kernel_rfl, by kernel_rfl, by kernel_rfl, by kernel_rfl⟩
def ti174 : TI := ⟨1, false, (TypeDesc.func #[77, 3, 3, 132] #[4] false), Value.nilFunc, 8, false, false, false⟩
theorem tf174 : TF Try.prog 174 ti174 := ⟨Try.sizeOf174, Try.isAgg174, Try.underlying174, Try.zeroValue174, by kernel_rfl, by kernel_rfl, by kernel_rfl, by kernel_rfl⟩
def ti175 : TI := ⟨1, false, (TypeDesc.func #[77, 3, 3, 3, 132] #[3] false), Value.nilFunc, 8, false, false, false⟩
theorem tf175 : TF Try.prog 175 ti175 := ⟨Try.sizeOf175, Try.isAgg175, Try.underlying175, Try.zeroValue175, by kernel_rfl, by kernel_rfl, by kernel_rfl, by kernel_rfl⟩
def ti176 : TI := ⟨1, false, (TypeDesc.func #[77, 3, 3, 3, 132] #[3, 4] false), Value.nilFunc, 8, false, false, false⟩
theorem tf176 : TF Try.prog 176 ti176 := ⟨Try.sizeOf176, Try.isAgg176, Try.underlying176, Try.zeroValue176, by kernel_rfl, by kernel_rfl, by kernel_rfl, by kernel_rfl⟩
def ti177 : TI := ⟨1, false, (TypeDesc.func #[28] #[] false), Value.nilFunc, 8, false, false, false⟩
theorem tf177 : TF Try.prog 177 ti177 := ⟨Try.sizeOf177, Try.isAgg177, Try.underlying177, Try.zeroValue177, by kernel_rfl, by kernel_rfl, by kernel_rfl, by kernel_rfl⟩
def ti178 : TI := ⟨1, false, (TypeDesc.pointer 97), (Value.pointer none), 8, false, false, true⟩
theorem tf178 : TF Try.prog 178 ti178 := ⟨Try.sizeOf178, Try.isAgg178, Try.underlying178, Try.zeroValue178, by kernel_rfl, by kernel_rfl, by kernel_rfl, by kernel_rfl⟩
def ti179 : TI := ⟨1, false, (TypeDesc.int IntKind.u64), (Value.int IntKind.u64 0), 8, false, false, true⟩
theorem tf179 : TF Try.prog 179 ti179 := ⟨Try.sizeOf179, Try.isAgg179, Try.underlying179, Try.zeroValue179, by kernel_rfl, by kernel_rfl, by kernel_rfl, by kernel_rfl⟩
def ti180 : TI := ⟨1, false, (TypeDesc.func #[3] #[147] false), Value.nilFunc, 8, false, false, false⟩
theorem tf180 : TF Try.prog 180 ti180 := ⟨Try.sizeOf180, Try.isAgg180, Try.underlying180, Try.zeroValue180, by kernel_rfl, by kernel_rfl, by kernel_rfl, by kernel_rfl⟩
def ti181 : TI := ⟨1, false, (TypeDesc.func #[] #[83] false), Value.nilFunc, 8, false, false, false⟩
theorem tf181 : TF Try.prog 181 ti181 := ⟨Try.sizeOf181, Try.isAgg181, Try.underlying181, Try.zeroValue181, by kernel_rfl, by kernel_rfl, by kernel_rfl, by kernel_rfl⟩
def ti182 : TI := ⟨1, false, (TypeDesc.func #[63, 3, 183, 115] #[3] false), Value.nilFunc, 8, false, false, false⟩
theorem tf182 : TF Try.prog 182 ti182 := ⟨Try.sizeOf182, Try.isAgg182, Try.underlying182, Try.zeroValue182, by kernel_rfl, by kernel_rfl, by kernel_rfl, by kernel_rfl⟩
def ti183 : TI := ⟨1, false, (TypeDesc.pointer 3), (Value.pointer none), 8, false, false, true⟩
theorem tf183 : TF Try.prog 183 ti183 := ⟨Try.sizeOf183, Try.isAgg183, Try.underlying183, Try.zeroValue183, by kernel_rfl, by kernel_rfl, by kernel_rfl, by kernel_rfl⟩
def ti184 : TI := ⟨1, false, (TypeDesc.func #[63, 3, 3, 3, 183, 115] #[3] false), Value.nilFunc, 8, false, false, false⟩
theorem tf184 : TF Try.prog 184 ti184 := ⟨Try.sizeOf184, Try.isAgg184, Try.underlying184, Try.zeroValue184, by kernel_rfl, by kernel_rfl, by kernel_rfl, by kernel_rfl⟩
def ti185 : TI := ⟨1, false, (TypeDesc.func #[77, 3, 183, 132] #[3] false), Value.nilFunc, 8, false, false, false⟩
theorem tf185 : TF Try.prog 185 ti185 := ⟨Try.sizeOf185, Try.isAgg185, Try.underlying185, Try.zeroValue185, by kernel_rfl, by kernel_rfl, by kernel_rfl, by kernel_rfl⟩
def ti186 : TI := ⟨1, false, (TypeDesc.func #[77, 3, 3, 3, 183, 132] #[3] false), Value.nilFunc, 8, false, false, false⟩
theorem tf186 : TF Try.prog 186 ti186 := ⟨Try.sizeOf186, Try.isAgg186, Try.underlying186, Try.zeroValue186, by kernel_rfl, by kernel_rfl, by kernel_rfl, by kernel_rfl⟩
def ti187 : TI := ⟨1, false, (TypeDesc.func #[22] #[] false), Value.nilFunc, 8, false, false, false⟩
theorem tf187 : TF Try.prog 187 ti187 := ⟨Try.sizeOf187, Try.isAgg187, Try.underlying187, Try.zeroValue187, by kernel_rfl, by kernel_rfl, by kernel_rfl, by kernel_rfl⟩
def ti188 : TI := ⟨1, false, (TypeDesc.func #[30] #[] false), Value.nilFunc, 8, false, false, false⟩
theorem tf188 : TF Try.prog 188 ti188 := ⟨Try.sizeOf188, Try.isAgg188, Try.underlying188, Try.zeroValue188, by kernel_rfl, by kernel_rfl, by kernel_rfl, by kernel_rfl⟩
def ti189 : TI := ⟨1, false, (TypeDesc.pointer 179), (Value.pointer none), 8, false, false, true⟩
theorem tf189 : TF Try.prog 189 ti189 := ⟨Try.sizeOf189, Try.isAgg189, Try.underlying189, Try.zeroValue189, by kernel_rfl, by kernel_rfl, by kernel_rfl, by kernel_rfl⟩
def ti191 : TI := ⟨1, false, (TypeDesc.func #[63, 3, 3, 183, 115] #[3, 3] false), Value.nilFunc, 8, false, false, false⟩
theorem tf191 : TF Try.prog 191 ti191 := ⟨Try.sizeOf191, Try.isAgg191, Try.underlying191, Try.zeroValue191, by kernel_rfl, by kernel_rfl, by kernel_rfl, by kernel_rfl⟩
def ti192 : TI := ⟨1, false, (TypeDesc.func #[77, 3, 3, 183, 132] #[3, 3] false), Value.nilFunc, 8, false, false, false⟩
theorem tf192 : TF Try.prog 192 ti192 := ⟨Try.sizeOf192, Try.isAgg192, Try.underlying192, Try.zeroValue192, by kernel_rfl, by kernel_rfl, by kernel_rfl, by kernel_rfl⟩
def ti193 : TI := ⟨1, false, (TypeDesc.func #[] #[9] false), Value.nilFunc, 8, false, false, false⟩
theorem tf193 : TF Try.prog 193 ti193 := ⟨Try.sizeOf193, Try.isAgg193, Try.underlying193, Try.zeroValue193, by kernel_rfl, by kernel_rfl, by kernel_rfl, by kernel_rfl⟩
def ti199 : TI := ⟨1, false, (TypeDesc.int IntKind.u8), (Value.int IntKind.u8 0), 1, false, false, true⟩
theorem tf199 : TF Try.prog 199 ti199 := ⟨Try.sizeOf199, Try.isAgg199, Try.underlying199, Try.zeroValue199, by kernel_rfl, by kernel_rfl, by kernel_rfl, by kernel_rfl⟩
def ti200 : TI := ⟨1, false, (TypeDesc.int IntKind.u8), (Value.int IntKind.u8 0), 1, false, false, true⟩
theorem tf200 : TF Try.prog 200 ti200 := ⟨Try.sizeOf200, Try.isAgg200, Try.underlying200, Try.zeroValue200, by kernel_rfl, by kernel_rfl, by kernel_rfl, by kernel_rfl⟩
def ti201 : TI := ⟨1, false, (TypeDesc.func #[207, 207] #[4] false), Value.nilFunc, 8, false, false, false⟩
theorem tf201 : TF Try.prog 201 ti201 := ⟨Try.sizeOf201, Try.isAgg201, Try.underlying201, Try.zeroValue201, by kernel_rfl, by kernel_rfl, by kernel_rfl, by kernel_rfl⟩
def ti202 : TI := ⟨1, false, (TypeDesc.pointer 5), (Value.pointer none), 8, false, false, true⟩
theorem tf202 : TF Try.prog 202 ti202 := ⟨Try.sizeOf202, Try.isAgg202, Try.underlying202, Try.zeroValue202, by kernel_rfl, by kernel_rfl, by kernel_rfl, by kernel_rfl⟩
def ti203 : TI := ⟨1, false, (TypeDesc.int IntKind.i32), (Value.int IntKind.i32 0), 4, false, false, true⟩
theorem tf203 : TF Try.prog 203 ti203 := ⟨Try.sizeOf203, Try.isAgg203, Try.underlying203, Try.zeroValue203, by kernel_rfl, by kernel_rfl, by kernel_rfl, by kernel_rfl⟩
def ti204 : TI := ⟨1, false, (TypeDesc.int IntKind.i32), (Value.int IntKind.i32 0), 4, false, false, true⟩
theorem tf204 : TF Try.prog 204 ti204 := ⟨Try.sizeOf204, Try.isAgg204, Try.underlying204, Try.zeroValue204, by kernel_rfl, by kernel_rfl, by kernel_rfl, by kernel_rfl⟩
def tt : TT := [(1, ti1), (2, ti2), (3, ti3), (4, ti4), (5, ti5), (6, ti6), (9, ti9), (10, ti10), (11, ti11), (12, ti12), (15, ti15), (16, ti16), (17, ti17), (20, ti20), (21, ti21), (22, ti22), (23, ti23), (24, ti24), (25, ti25), (26, ti26), (27, ti27), (28, ti28), (29, ti29), (30, ti30), (31, ti31), (32, ti32), (33, ti33), (34, ti34), (36, ti36), (37, ti37), (38, ti38), (39, ti39), (40, ti40), (41, ti41), (42, ti42), (43, ti43), (44, ti44), (46, ti46), (48, ti48), (50, ti50), (51, ti51), (52, ti52), (53, ti53), (54, ti54), (55, ti55), (56, ti56), (57, ti57), (58, ti58), (59, ti59), (60, ti60), (61, ti61), (62, ti62), (63, ti63), (64, ti64), (65, ti65), (66, ti66), (67, ti67), (68, ti68), (69, ti69), (70, ti70), (71, ti71), (72, ti72), (73, ti73), (74, ti74), (75, ti75), (76, ti76), (77, ti77), (78, ti78), (79, ti79), (80, ti80), (81, ti81), (82, ti82), (83, ti83), (84, ti84), (85, ti85), (86, ti86), (87, ti87), (88, ti88), (89, ti89), (90, ti90), (91, ti91), (92, ti92), (93, ti93), (94, ti94), (95, ti95), (96, ti96), (97, ti97), (98, ti98), (99, ti99), (100, ti100), (102, ti102), (103, ti103), (104, ti104), (105, ti105), (106, ti106), (107, ti107), (108, ti108), (109, ti109), (110, ti110), (111, ti111), (112, ti112), (113, ti113), (114, ti114), (115, ti115), (116, ti116), (117, ti117), (118, ti118), (119, ti119), (120, ti120), (121, ti121), (122, ti122), (123, ti123), (124, ti124), (125, ti125), (126, ti126), (127, ti127), (128, ti128), (129, ti129), (130, ti130), (131, ti131), (132, ti132), (133, ti133), (134, ti134), (135, ti135), (136, ti136), (137, ti137), (138, ti138), (139, ti139), (140, ti140), (141, ti141), (142, ti142), (143, ti143), (144, ti144), (145, ti145), (146, ti146), (147, ti147), (148, ti148), (149, ti149), (150, ti150), (151, ti151), (152, ti152), (153, ti153), (154, ti154), (155, ti155), (156, ti156), (157, ti157), (158, ti158), (159, ti159), (160, ti160), (161, ti161), (162, ti162), (163, ti163), (164, ti164), (166, ti166), (167, ti167), (168, ti168), (169, ti169), (170, ti170), (171, ti171), (172, ti172), (173, ti173), (174, ti174), (175, ti175), (176, ti176), (177, ti177), (178, ti178), (179, ti179), (180, ti180), (181, ti181), (182, ti182), (183, ti183), (184, ti184), (185, ti185), (186, ti186), (187, ti187), (188, ti188), (189, ti189), (191, ti191), (192, ti192), (193, ti193), (199, ti199), (200, ti200), (201, ti201), (202, ti202), (203, ti203), (204, ti204)]
theorem ttok : TTok Try.prog tt := TTok.cons tf1 (TTok.cons tf2 (TTok.cons tf3 (TTok.cons tf4 (TTok.cons tf5 (TTok.cons tf6 (TTok.cons tf9 (TTok.cons tf10 (TTok.cons tf11 (TTok.cons tf12 (TTok.cons tf15 (TTok.cons tf16 (TTok.cons tf17 (TTok.cons tf20 (TTok.cons tf21 (TTok.cons tf22 (TTok.cons tf23 (TTok.cons tf24 (TTok.cons tf25 (TTok.cons tf26 (TTok.cons tf27 (TTok.cons tf28 (TTok.cons tf29 (TTok.cons tf30 (TTok.cons tf31 (TTok.cons tf32 (TTok.cons tf33 (TTok.cons tf34 (TTok.cons tf36 (TTok.cons tf37 (TTok.cons tf38 (TTok.cons tf39 (TTok.cons tf40 (TTok.cons tf41 (TTok.cons tf42 (TTok.cons tf43 (TTok.cons tf44 (TTok.cons tf46 (TTok.cons tf48 (TTok.cons tf50 (TTok.cons tf51 (TTok.cons tf52 (TTok.cons tf53 (TTok.cons tf54 (TTok.cons tf55 (TTok.cons tf56 (TTok.cons tf57 (TTok.cons tf58 (TTok.cons tf59 (TTok.cons tf60 (TTok.cons tf61 (TTok.cons tf62 (TTok.cons tf63 (TTok.cons tf64 (TTok.cons tf65 (TTok.cons tf66 (TTok.cons tf67 (TTok.cons tf68 (TTok.cons tf69 (TTok.cons tf70 (TTok.cons tf71 (TTok.cons tf72 (TTok.cons tf73 (TTok.cons tf74 (TTok.cons tf75 (TTok.cons tf76 (TTok.cons tf77 (TTok.cons tf78 (TTok.cons tf79 (TTok.cons tf80 (TTok.cons tf81 (TTok.cons tf82 (TTok.cons tf83 (TTok.cons tf84 (TTok.cons tf85 (TTok.cons tf86 (TTok.cons tf87 (TTok.cons tf88 (TTok.cons tf89 (TTok.cons tf90 (TTok.cons tf91 (TTok.cons tf92 (TTok.cons tf93 (TTok.cons tf94 (TTok.cons tf95 (TTok.cons tf96 (TTok.cons tf97 (TTok.cons tf98 (TTok.cons tf99 (TTok.cons tf100 (TTok.cons tf102 (TTok.cons tf103 (TTok.cons tf104 (TTok.cons tf105 (TTok.cons tf106 (TTok.cons tf107 (TTok.cons tf108 (TTok.cons tf109 (TTok.cons tf110 (TTok.cons tf111 (TTok.cons tf112 (TTok.cons tf113 (TTok.cons tf114 (TTok.cons tf115 (TTok.cons tf116 (TTok.cons tf117 (TTok.cons tf118 (TTok.cons tf119 (TTok.cons tf120 (TTok.cons tf121 (TTok.cons tf122 (TTok.cons tf123 (TTok.cons tf124 (TTok.cons tf125 (TTok.cons tf126 (TTok.cons tf127 (TTok.cons tf128 (TTok.cons tf129 (TTok.cons tf130 (TTok.cons tf131 (TTok.cons tf132 (TTok.cons tf133 (TTok.cons tf134 (TTok.cons tf135 (TTok.cons tf136 (TTok.cons tf137 (TTok.cons tf138 (TTok.cons tf139 (TTok.cons tf140 (TTok.cons tf141 (TTok.cons tf142 (TTok.cons tf143 (TTok.cons tf144 (TTok.cons tf145 (TTok.cons tf146 (TTok.cons tf147 (TTok.cons tf148 (TTok.cons tf149 (TTok.cons tf150 (TTok.cons tf151 (TTok.cons tf152 (TTok.cons tf153 (TTok.cons tf154 (TTok.cons tf155 (TTok.cons tf156 (TTok.cons tf157 (TTok.cons tf158 (TTok.cons tf159 (TTok.cons tf160 (TTok.cons tf161 (TTok.cons tf162 (TTok.cons tf163 (TTok.cons tf164 (TTok.cons tf166 (TTok.cons tf167 (TTok.cons tf168 (TTok.cons tf169 (TTok.cons tf170 (TTok.cons tf171 (TTok.cons tf172 (TTok.cons tf173 (TTok.cons tf174 (TTok.cons tf175 (TTok.cons tf176 (TTok.cons tf177 (TTok.cons tf178 (TTok.cons tf179 (TTok.cons tf180 (TTok.cons tf181 (TTok.cons tf182 (TTok.cons tf183 (TTok.cons tf184 (TTok.cons tf185 (TTok.cons tf186 (TTok.cons tf187 (TTok.cons tf188 (TTok.cons tf189 (TTok.cons tf191 (TTok.cons tf192 (TTok.cons tf193 (TTok.cons tf199 (TTok.cons tf200 (TTok.cons tf201 (TTok.cons tf202 (TTok.cons tf203 (TTok.cons tf204 (TTok.nil))))))))))))))))))))))))))))))))))))))))))))))))))))))))))))))))))))))))))))))))))))))))))))))))))))))))))))))))))))))))))))))))))))))))))))))))))))))))))))))))))))))))))))))))))))))))))
end Go.Eng
/- The functions of the seat. -/
set_option maxRecDepth 100000
namespace Go.Eng
open Go Go.RowKit Go.Proofs
def ft : FL := [(3, some true), (4, some true), (5, some true), (6, some true), (7, some true), (8, some true), (9, some true), (10, some true), (11, some true), (12, some true), (13, some true), (14, some true), (15, some true), (16, some true), (17, some true), (18, some true), (19, some true), (20, some true), (21, some true), (22, some true), (23, some true), (24, some true), (25, some true), (26, some true), (27, some true), (28, some true), (29, some true), (30, some true), (31, some true), (32, some true), (33, some true), (34, some true), (35, some true), (36, some true), (37, some true), (38, some true), (39, some true), (40, some true), (41, some true), (42, some true), (43, some true), (44, some true), (45, some true), (46, some true), (47, some true), (48, some true), (49, some true), (50, some true), (51, some true), (52, some true), (53, some true), (54, some true), (55, some false), (56, some true), (57, some true), (58, some true), (59, some true), (60, some true), (61, some true), (62, some true), (63, some true), (64, some true), (65, some true), (66, some true), (67, some false), (68, some true), (69, some true), (70, some true), (71, some true), (72, some true), (73, some true), (74, some true), (75, some true), (76, some true), (77, some true), (78, some true), (79, some false), (80, some true), (81, some true), (82, some false), (83, some true), (84, some true), (85, some true), (86, some true), (87, some true), (88, some true), (89, some true), (90, some false), (91, some false), (92, some true), (93, none), (94, some false), (95, some false), (96, some true), (97, some true), (98, some true), (99, some true), (100, some false), (101, some true), (102, some true), (103, some true), (104, some true), (105, some false), (106, some true), (107, some false), (108, some true), (109, some true), (110, none), (111, some false), (112, some false), (113, some false), (114, none), (115, some false), (116, some true), (117, some false), (118, some false), (119, some false), (120, some false), (121, some false), (122, some false), (123, some false), (124, some false), (125, some true), (126, some true), (127, some false), (128, some false), (129, some false), (130, some false), (131, some false), (132, some false), (133, some false), (134, some false), (135, some false), (136, some true), (137, some false), (138, some false), (139, some true), (140, some true), (141, some false), (142, some false), (143, some false), (144, some false), (145, some false), (146, some true), (147, some true), (148, some false), (149, some false), (165, none)]
theorem ftok : FTok Try.prog ft := FTok.cons Try.func3 (by kernel_rfl) rfl (FTok.cons Try.func4 (by kernel_rfl) rfl (FTok.cons Try.func5 (by kernel_rfl) rfl (FTok.cons Try.func6 (by kernel_rfl) rfl (FTok.cons Try.func7 (by kernel_rfl) rfl (FTok.cons Try.func8 (by kernel_rfl) rfl (FTok.cons Try.func9 (by kernel_rfl) rfl (FTok.cons Try.func10 (by kernel_rfl) rfl (FTok.cons Try.func11 (by kernel_rfl) rfl (FTok.cons Try.func12 (by kernel_rfl) rfl (FTok.cons Try.func13 (by kernel_rfl) rfl (FTok.cons Try.func14 (by kernel_rfl) rfl (FTok.cons Try.func15 (by kernel_rfl) rfl (FTok.cons Try.func16 (by kernel_rfl) rfl (FTok.cons Try.func17 (by kernel_rfl) rfl (FTok.cons Try.func18 (by kernel_rfl) rfl (FTok.cons Try.func19 (by kernel_rfl) rfl (FTok.cons Try.func20 (by kernel_rfl) rfl (FTok.cons Try.func21 (by kernel_rfl) rfl (FTok.cons Try.func22 (by kernel_rfl) rfl (FTok.cons Try.func23 (by kernel_rfl) rfl (FTok.cons Try.func24 (by kernel_rfl) rfl (FTok.cons Try.func25 (by kernel_rfl) rfl (FTok.cons Try.func26 (by kernel_rfl) rfl (FTok.cons Try.func27 (by kernel_rfl) rfl (FTok.cons Try.func28 (by kernel_rfl) rfl (FTok.cons Try.func29 (by kernel_rfl) rfl (FTok.cons Try.func30 (by kernel_rfl) rfl (FTok.cons Try.func31 (by kernel_rfl) rfl (FTok.cons Try.func32 (by kernel_rfl) rfl (FTok.cons Try.func33 (by kernel_rfl) rfl (FTok.cons Try.func34 (by kernel_rfl) rfl (FTok.cons Try.func35 (by kernel_rfl) rfl (FTok.cons Try.func36 (by kernel_rfl) rfl (FTok.cons Try.func37 (by kernel_rfl) rfl (FTok.cons Try.func38 (by kernel_rfl) rfl (FTok.cons Try.func39 (by kernel_rfl) rfl (FTok.cons Try.func40 (by kernel_rfl) rfl (FTok.cons Try.func41 (by kernel_rfl) rfl (FTok.cons Try.func42 (by kernel_rfl) rfl (FTok.cons Try.func43 (by kernel_rfl) rfl (FTok.cons Try.func44 (by kernel_rfl) rfl (FTok.cons Try.func45 (by kernel_rfl) rfl (FTok.cons Try.func46 (by kernel_rfl) rfl (FTok.cons Try.func47 (by kernel_rfl) rfl (FTok.cons Try.func48 (by kernel_rfl) rfl (FTok.cons Try.func49 (by kernel_rfl) rfl (FTok.cons Try.func50 (by kernel_rfl) rfl (FTok.cons Try.func51 (by kernel_rfl) rfl (FTok.cons Try.func52 (by kernel_rfl) rfl (FTok.cons Try.func53 (by kernel_rfl) rfl (FTok.cons Try.func54 (by kernel_rfl) rfl (FTok.cons Try.func55 (by kernel_rfl) rfl (FTok.cons Try.func56 (by kernel_rfl) rfl (FTok.cons Try.func57 (by kernel_rfl) rfl (FTok.cons Try.func58 (by kernel_rfl) rfl (FTok.cons Try.func59 (by kernel_rfl) rfl (FTok.cons Try.func60 (by kernel_rfl) rfl (FTok.cons Try.func61 (by kernel_rfl) rfl (FTok.cons Try.func62 (by kernel_rfl) rfl (FTok.cons Try.func63 (by kernel_rfl) rfl (FTok.cons Try.func64 (by kernel_rfl) rfl (FTok.cons Try.func65 (by kernel_rfl) rfl (FTok.cons Try.func66 (by kernel_rfl) rfl (FTok.cons Try.func67 (by kernel_rfl) rfl (FTok.cons Try.func68 (by kernel_rfl) rfl (FTok.cons Try.func69 (by kernel_rfl) rfl (FTok.cons Try.func70 (by kernel_rfl) rfl (FTok.cons Try.func71 (by kernel_rfl) rfl (FTok.cons Try.func72 (by kernel_rfl) rfl (FTok.cons Try.func73 (by kernel_rfl) rfl (FTok.cons Try.func74 (by kernel_rfl) rfl (FTok.cons Try.func75 (by kernel_rfl) rfl (FTok.cons Try.func76 (by kernel_rfl) rfl (FTok.cons Try.func77 (by kernel_rfl) rfl (FTok.cons Try.func78 (by kernel_rfl) rfl (FTok.cons Try.func79 (by kernel_rfl) rfl (FTok.cons Try.func80 (by kernel_rfl) rfl (FTok.cons Try.func81 (by kernel_rfl) rfl (FTok.cons Try.func82 (by kernel_rfl) rfl (FTok.cons Try.func83 (by kernel_rfl) rfl (FTok.cons Try.func84 (by kernel_rfl) rfl (FTok.cons Try.func85 (by kernel_rfl) rfl (FTok.cons Try.func86 (by kernel_rfl) rfl (FTok.cons Try.func87 (by kernel_rfl) rfl (FTok.cons Try.func88 (by kernel_rfl) rfl (FTok.cons Try.func89 (by kernel_rfl) rfl (FTok.cons Try.func90 (by kernel_rfl) rfl (FTok.cons Try.func91 (by kernel_rfl) rfl (FTok.cons Try.func92 (by kernel_rfl) rfl (FTok.consX (FTok.cons Try.func94 (by kernel_rfl) rfl (FTok.cons Try.func95 (by kernel_rfl) rfl (FTok.cons Try.func96 (by kernel_rfl) rfl (FTok.cons Try.func97 (by kernel_rfl) rfl (FTok.cons Try.func98 (by kernel_rfl) rfl (FTok.cons Try.func99 (by kernel_rfl) rfl (FTok.cons Try.func100 (by kernel_rfl) rfl (FTok.cons Try.func101 (by kernel_rfl) rfl (FTok.cons Try.func102 (by kernel_rfl) rfl (FTok.cons Try.func103 (by kernel_rfl) rfl (FTok.cons Try.func104 (by kernel_rfl) rfl (FTok.cons Try.func105 (by kernel_rfl) rfl (FTok.cons Try.func106 (by kernel_rfl) rfl (FTok.cons Try.func107 (by kernel_rfl) rfl (FTok.cons Try.func108 (by kernel_rfl) rfl (FTok.cons Try.func109 (by kernel_rfl) rfl (FTok.consX (FTok.cons Try.func111 (by kernel_rfl) rfl (FTok.cons Try.func112 (by kernel_rfl) rfl (FTok.cons Try.func113 (by kernel_rfl) rfl (FTok.consX (FTok.cons Try.func115 (by kernel_rfl) rfl (FTok.cons Try.func116 (by kernel_rfl) rfl (FTok.cons Try.func117 (by kernel_rfl) rfl (FTok.cons Try.func118 (by kernel_rfl) rfl (FTok.cons Try.func119 (by kernel_rfl) rfl (FTok.cons Try.func120 (by kernel_rfl) rfl (FTok.cons Try.func121 (by kernel_rfl) rfl (FTok.cons Try.func122 (by kernel_rfl) rfl (FTok.cons Try.func123 (by kernel_rfl) rfl (FTok.cons Try.func124 (by kernel_rfl) rfl (FTok.cons Try.func125 (by kernel_rfl) rfl (FTok.cons Try.func126 (by kernel_rfl) rfl (FTok.cons Try.func127 (by kernel_rfl) rfl (FTok.cons Try.func128 (by kernel_rfl) rfl (FTok.cons Try.func129 (by kernel_rfl) rfl (FTok.cons Try.func130 (by kernel_rfl) rfl (FTok.cons Try.func131 (by kernel_rfl) rfl (FTok.cons Try.func132 (by kernel_rfl) rfl (FTok.cons Try.func133 (by kernel_rfl) rfl (FTok.cons Try.func134 (by kernel_rfl) rfl (FTok.cons Try.func135 (by kernel_rfl) rfl (FTok.cons Try.func136 (by kernel_rfl) rfl (FTok.cons Try.func137 (by kernel_rfl) rfl (FTok.cons Try.func138 (by kernel_rfl) rfl (FTok.cons Try.func139 (by kernel_rfl) rfl (FTok.cons Try.func140 (by kernel_rfl) rfl (FTok.cons Try.func141 (by kernel_rfl) rfl (FTok.cons Try.func142 (by kernel_rfl) rfl (FTok.cons Try.func143 (by kernel_rfl) rfl (FTok.cons Try.func144 (by kernel_rfl) rfl (FTok.cons Try.func145 (by kernel_rfl) rfl (FTok.cons Try.func146 (by kernel_rfl) rfl (FTok.cons Try.func147 (by kernel_rfl) rfl (FTok.cons Try.func148 (by kernel_rfl) rfl (FTok.cons Try.func149 (by kernel_rfl) rfl (FTok.consX (FTok.nil))))))))))))))))))))))))))))))))))))))))))))))))))))))))))))))))))))))))))))))))))))))))))))))))))))))))))))))))))))))))))))))))))))))))))))))))))))
theorem mixed : Try.prog.follows .mixedOrders = true := by kernel_rfl
end Go.Eng
namespace Go.Eng
open Go
theorem w_u32 (x : Int) : IntKind.u32.wrap x = x % 4294967296 := by unfold IntKind.wrap IntKind.bits IntKind.signed; simp
theorem w_u64 (x : Int) : IntKind.u64.wrap x = x % 18446744073709551616 := by unfold IntKind.wrap IntKind.bits IntKind.signed; simp
theorem w_u16 (x : Int) : IntKind.u16.wrap x = x % 65536 := by unfold IntKind.wrap IntKind.bits IntKind.signed; simp
theorem w_u8 (x : Int) : IntKind.u8.wrap x = x % 256 := by unfold IntKind.wrap IntKind.bits IntKind.signed; simp
theorem w_i64 {x : Int} (h1 : -9223372036854775808 ≤ x) (h2 : x ≤ 9223372036854775807) : IntKind.i64.wrap x = x := by
  unfold IntKind.wrap IntKind.bits IntKind.signed
  simp
  split <;> omega
theorem wf_u32 {n : Int} (h : (Lit.int .u32 n).wf = true) : 0 ≤ n ∧ n ≤ 4294967295 := by
  simp [Lit.wf, IntKind.min, IntKind.max, IntKind.bits, IntKind.signed] at h
  omega
theorem wf_u16 {n : Int} (h : (Lit.int .u16 n).wf = true) : 0 ≤ n ∧ n ≤ 65535 := by
  simp [Lit.wf, IntKind.min, IntKind.max, IntKind.bits, IntKind.signed] at h
  omega
theorem wf_u8 {n : Int} (h : (Lit.int .u8 n).wf = true) : 0 ≤ n ∧ n ≤ 255 := by
  simp [Lit.wf, IntKind.min, IntKind.max, IntKind.bits, IntKind.signed] at h
  omega
theorem wf_u64 {n : Int} (h : (Lit.int .u64 n).wf = true) : 0 ≤ n ∧ n ≤ 18446744073709551615 := by
  simp [Lit.wf, IntKind.min, IntKind.max, IntKind.bits, IntKind.signed] at h
  omega
theorem wf_i64 {n : Int} (h : (Lit.int .i64 n).wf = true) : -9223372036854775808 ≤ n ∧ n ≤ 9223372036854775807 := by
  simp [Lit.wf, IntKind.min, IntKind.max, IntKind.bits, IntKind.signed] at h
  omega
end Go.Eng
set_option linter.unusedVariables false
namespace Go.Eng
open Go Go.RowKit Go.Proofs
abbrev vu (n : Int) : IC := .v (.int .u32 n)
abbrev vi (n : Int) : IC := .v (.int .i64 n)
abbrev vr (n : Int) : IC := .v (.int .i32 n)
abbrev vci (k : IntKind) (n : Int) : AV := .c (.v (.int k n))
abbrev vcb (b : Bool) : AV := .c (.v (.bool b))
abbrev vcs (s : ByteArray) : AV := .c (.v (.string s))
abbrev nilS : AV := .c (.v (.slice none 0 0))
abbrev rns (l : List Int) : AV := .c (.sl 1 l.length (runeF l))
theorem getD_take {α : Type} (l : List α) (n j : Nat) (d : α) (h : j < n) : (l.take n).getD j d = l.getD j d := by simp only [List.getD_eq_getElem?_getD, List.getElem?_take, if_pos h]
theorem getD_drop {α : Type} (l : List α) (i j : Nat) (d : α) : (l.drop i).getD j d = l.getD (i + j) d := by simp only [List.getD_eq_getElem?_getD, List.getElem?_drop]
theorem ti_nat (n : Nat) : (n : Int).toNat = n := Int.toNat_natCast n
/-- An append of one element. -/
theorem app1 {α : Type} {enc : α → List IC} {d : α} {l : List α} {f g : Nat → List IC} {K : Nat → (Nat → List IC) → Prop} (a : α) (hf : ∀ k, k < l.length → f k = enc (l.getD k d)) (hg : g 0 = enc a) (h : K (l ++ [a]).length fun k => enc ((l ++ [a]).getD k d)) :
    ∃ (n' : Nat) (f' : Nat → List IC), n' = l.length + 1 ∧ (∀ k, k < l.length → f' k = f k) ∧ (∀ k, k < 1 → f' (l.length + k) = g k) ∧ K n' f' := by
  refine ⟨_, _, by simp, fun k hk => ?_, fun k hk => ?_, h⟩
  · rw [hf k hk]
    simp [List.getD_eq_getElem?_getD, List.getElem?_append_left hk]
  · obtain rfl : k = 0 := by omega
    rw [hg]
    simp [List.getD_eq_getElem?_getD]
theorem frz_two (i j : Nat) {st st1 st' : St} (h1 : ∀ K : St → Prop, K st1 → frzK st i K) (h2 : ∀ K : St → Prop, K st' → frzK st1 j K) : Weak st st' := (frz_weak i h1).trans (frz_weak j h2)
end Go.Eng
/- Ids as pairs. -/
set_option linter.unusedVariables false
namespace Go.Eng
open Go Go.RowKit Go.Proofs
abbrev I2 := Int × Int
def u32P (a : I2) : Prop := (0 ≤ a.1 ∧ a.1 ≤ 4294967295) ∧ 0 ≤ a.2 ∧ a.2 ≤ 4294967295
abbrev idF (a : I2) : List IC := [vu a.1, vu a.2]
abbrev idA (a : I2) : AV := .agg (idF a)
end Go.Eng
/- Spans: which lists of spans are sets. -/
set_option linter.unusedVariables false
set_option linter.unusedSimpArgs false
set_option maxRecDepth 100000
set_option maxHeartbeats 4000000
namespace Go.Eng
open Go Go.RowKit Go.Proofs
structure Sp where
  cl : Int
  fr : Int
  tz : Int
def sp0 : Sp := ⟨0, 0, 0⟩
abbrev spF (s : Sp) : List IC := [vu s.cl, vu s.fr, vu s.tz]
abbrev spS (l : List Sp) : AV := .c (.sl 3 l.length fun k => spF (l.getD k sp0))
def spOk (s : Sp) : Prop := (0 ≤ s.cl ∧ s.cl ≤ 4294967295) ∧ (0 ≤ s.fr ∧ s.fr ≤ 4294967295) ∧ 0 ≤ s.tz ∧ s.tz ≤ 4294967295
def okAt (l : List Sp) (k : Nat) : Prop := ¬ ((l.getD k sp0).cl = 0 ∨ (l.getD k sp0).tz ≤ (l.getD k sp0).fr) ∧
  (0 < k → ¬ ((l.getD k sp0).cl < (l.getD (k - 1) sp0).cl ∨ (l.getD k sp0).cl = (l.getD (k - 1) sp0).cl ∧ (l.getD k sp0).fr ≤ (l.getD (k - 1) sp0).tz))
def mayS (l : List Sp) : Prop := ∀ k, k < l.length → okAt l k
def msI (l : List Sp) (n : Nat) (st : St) : Prop := ∃ k : Nat, n = l.length - k ∧ k ≤ l.length ∧ (∀ j, j < k → okAt l j) ∧ st = ⟨71, 0, [(0, spS l), (3, vci .i64 (k : Int))], []⟩
theorem mayset_c (l : List Sp) (hl : l.length ≤ 1000000000) : CallV Try.prog 44 [spS l] [] (fun r own' => own' = [] ∧ ∃ b : Bool, (b = true ↔ mayS l) ∧ r = vcb b) := by
  refine callV_pure Try.func44 rfl ttok ftok rfl rfl rfl (Nat.le_of_ble_eq_true rfl) ?_
  conv => whnf
  refine loopV ttok ftok (msI l) (env_weak [0, 3] rfl) ⟨0, rfl, Nat.zero_le _, fun j hj => by omega, rfl⟩ ?_
  rintro n st ⟨k, rfl, hk, hj, rfl⟩
  have e1 : IntKind.i64.wrap ((k : Int) + 1) = ((k + 1 : Nat) : Int) := by rw [w_i64 (by omega) (by omega)]; omega
  conv => whnf
  refine onB_intro (fun h => ?_) (fun h => ?_)
  · have h := of_decide_eq_true h
    have hk2 : k < l.length := by omega
    have next : okAt l k → ∀ j, j < k + 1 → okAt l j := fun h j h2 => by
      rcases Nat.lt_succ_iff_lt_or_eq.1 h2 with h3 | rfl
      · exact hj j h3
      · exact h
    conv => whnf
    refine drawV_join mixed (by kernel_rfl) ttok ?_
    conv => whnf
    refine ⟨by omega, ?_⟩
    conv => whnf
    refine ⟨?_, ?_⟩
    · conv => whnf
      intro g1
      conv => whnf
      omega
    conv => whnf
    refine ⟨?_, ?_⟩
    · conv => whnf
      intro g1
      conv => whnf
      omega
    conv => whnf
    simp only [ti_nat]
    refine onB_intro (fun g => ?_) (fun g => ?_)
    · have hb : (l.getD k sp0).cl = 0 ∨ (l.getD k sp0).tz ≤ (l.getD k sp0).fr := by
        simp [pickB, isLit, - List.getD_eq_getElem?_getD] at g
        exact g
      conv => whnf
      exact ⟨false, ⟨fun e => (nomatch e), fun e => absurd hb (e k hk2).1⟩, rfl⟩
    have hb : ¬ ((l.getD k sp0).cl = 0 ∨ (l.getD k sp0).tz ≤ (l.getD k sp0).fr) := by
      simp [pickB, isLit, - List.getD_eq_getElem?_getD] at g
      omega
    clear g
    conv => whnf
    by_cases hk0 : k = 0
    · subst hk0
      conv => whnf
      rw [e1]
      exact ⟨l.length - (0 + 1), _, by omega, env_weak [0, 3] rfl, 0 + 1, rfl, by omega, next ⟨hb, fun h => absurd h (by omega)⟩, rfl⟩
    rw [show (((k : Nat) : Int) == 0) = false from beq_eq_false_iff_ne.2 (by omega)]
    have e2 : IntKind.i64.wrap ((k : Int) - 1) = ((k - 1 : Nat) : Int) := by rw [w_i64 (by omega) (by omega)]; omega
    conv => whnf
    refine drawV_join mixed (by kernel_rfl) ttok ?_
    conv => whnf
    refine ⟨by omega, ?_⟩
    conv => whnf
    rw [e2]
    refine ⟨by omega, ?_⟩
    conv => whnf
    refine ⟨?_, ?_⟩
    · conv => whnf
      intro g1
      conv => whnf
      (try rw [e2])
      omega
    conv => whnf
    refine ⟨?_, ?_⟩
    · conv => whnf
      intro g1
      conv => whnf
      (try rw [e2])
      omega
    conv => whnf
    refine ⟨?_, ?_⟩
    · conv => whnf
      intro g1
      conv => whnf
      intro g2
      conv => whnf
      (try rw [e2])
      omega
    conv => whnf
    refine ⟨?_, ?_⟩
    · conv => whnf
      intro g1
      conv => whnf
      intro g2
      conv => whnf
      (try rw [e2])
      omega
    conv => whnf
    simp only [ti_nat, e2]
    refine onB_intro (fun g => ?_) (fun g => ?_)
    · have hb2 : (l.getD k sp0).cl < (l.getD (k - 1) sp0).cl ∨ (l.getD k sp0).cl = (l.getD (k - 1) sp0).cl ∧ (l.getD k sp0).fr ≤ (l.getD (k - 1) sp0).tz := by
        simp [pickB, isLit, - List.getD_eq_getElem?_getD] at g
        exact g
      conv => whnf
      exact ⟨false, ⟨fun e => (nomatch e), fun e => absurd hb2 ((e k hk2).2 (by omega))⟩, rfl⟩
    · have hb2 : ¬ ((l.getD k sp0).cl < (l.getD (k - 1) sp0).cl ∨ (l.getD k sp0).cl = (l.getD (k - 1) sp0).cl ∧ (l.getD k sp0).fr ≤ (l.getD (k - 1) sp0).tz) := by
        simp [pickB, isLit, - List.getD_eq_getElem?_getD] at g
        omega
      conv => whnf
      rw [e1]
      exact ⟨l.length - (k + 1), _, by omega, env_weak [0, 3] rfl, k + 1, rfl, by omega, next ⟨hb, fun _ => hb2⟩, rfl⟩
  · have h := of_decide_eq_false h
    conv => whnf
    exact ⟨true, ⟨fun _ j h2 => hj j (by omega), fun _ => rfl⟩, rfl⟩
def rsI (l : List Sp) (n : Nat) (st : St) : Prop := ∃ k : Nat, n = l.length - k ∧ k ≤ l.length ∧ (∀ j, j < k → okAt l j) ∧ st = ⟨58, 0, [(0, spS l), (5, spS l), (6, vci .i64 l.length), (7, vci .i64 (k : Int))], []⟩
theorem rmay_c (l : List Sp) (hl : l.length ≤ 1000000000) : CallV Try.prog 45 [spS l] [] (fun r own' => own' = [] ∧ ∃ b : Bool, (b = true ↔ mayS l) ∧ r = vcb b) := by
  refine callV_pure Try.func45 rfl ttok ftok rfl rfl rfl (Nat.le_of_ble_eq_true rfl) ?_
  conv => whnf
  refine loopV ttok ftok (rsI l) (env_weak [0, 5, 6, 7] rfl) ⟨0, rfl, Nat.zero_le _, fun j hj => by omega, rfl⟩ ?_
  rintro n st ⟨k, rfl, hk, hj, rfl⟩
  have e1 : IntKind.i64.wrap ((k : Int) + 1) = ((k + 1 : Nat) : Int) := by rw [w_i64 (by omega) (by omega)]; omega
  conv => whnf
  refine onB_intro (fun h => ?_) (fun h => ?_)
  · have h := of_decide_eq_true h
    have hk2 : k < l.length := by omega
    have next : okAt l k → ∀ j, j < k + 1 → okAt l j := fun h j h2 => by
      rcases Nat.lt_succ_iff_lt_or_eq.1 h2 with h3 | rfl
      · exact hj j h3
      · exact h
    conv => whnf
    refine ⟨by omega, ?_⟩
    conv => whnf
    simp only [ti_nat]
    refine onB_intro (fun g => ?_) (fun g => ?_)
    · have hb : (l.getD k sp0).cl = 0 ∨ (l.getD k sp0).tz ≤ (l.getD k sp0).fr := by
        simp [pickB, isLit, - List.getD_eq_getElem?_getD] at g
        exact g
      conv => whnf
      exact ⟨false, ⟨fun e => (nomatch e), fun e => absurd hb (e k hk2).1⟩, rfl⟩
    have hb : ¬ ((l.getD k sp0).cl = 0 ∨ (l.getD k sp0).tz ≤ (l.getD k sp0).fr) := by
      simp [pickB, isLit, - List.getD_eq_getElem?_getD] at g
      omega
    clear g
    conv => whnf
    refine drawV_join mixed (by kernel_rfl) ttok ?_
    conv => whnf
    have e2 : 0 < k → IntKind.i64.wrap ((k : Int) - 1) = ((k - 1 : Nat) : Int) := fun h0 => by rw [w_i64 (by omega) (by omega)]; omega
    refine ⟨?_, ?_⟩
    · conv => whnf
      intro g1
      conv => whnf
      have g1 := of_decide_eq_true g1
      try intro g2
      try (conv => whnf)
      try intro g3
      try (conv => whnf)
      rw [e2 (by omega)]
      omega
    conv => whnf
    refine ⟨?_, ?_⟩
    · conv => whnf
      intro g1
      conv => whnf
      have g1 := of_decide_eq_true g1
      try intro g2
      try (conv => whnf)
      try intro g3
      try (conv => whnf)
      rw [e2 (by omega)]
      omega
    conv => whnf
    refine ⟨?_, ?_⟩
    · conv => whnf
      intro g1
      conv => whnf
      have g1 := of_decide_eq_true g1
      try intro g2
      try (conv => whnf)
      try intro g3
      try (conv => whnf)
      rw [e2 (by omega)]
      omega
    conv => whnf
    have e3 : 0 < k → (IntKind.i64.wrap ((k : Int) - 1)).toNat = k - 1 := fun h0 => by rw [e2 h0, ti_nat]
    refine onB_intro (fun g => ?_) (fun g => ?_)
    · simp only [pickB, isLit, Bool.and_eq_true, Bool.or_eq_true, decide_eq_true_eq, beq_iff_eq] at g
      obtain ⟨g1, g2⟩ := g
      have g1 : 0 < k := by omega
      rw [e3 g1] at g2
      conv => whnf
      exact ⟨false, ⟨fun e => (nomatch e), fun e => absurd g2 ((e k hk2).2 g1)⟩, rfl⟩
    · have hb2 : 0 < k → ¬ ((l.getD k sp0).cl < (l.getD (k - 1) sp0).cl ∨ (l.getD k sp0).cl = (l.getD (k - 1) sp0).cl ∧ (l.getD k sp0).fr ≤ (l.getD (k - 1) sp0).tz) := fun h0 q => by
        rw [e3 h0] at g
        have : (pickB (decide ((k : Int) > 0)) (Operand.tmp 55) (Operand.const (Value.bool false)) (pickB (decide ((l.getD k sp0).cl < (l.getD (k - 1) sp0).cl)) (Operand.const (Value.bool true)) (Operand.tmp 54) true
          (pickB ((l.getD k sp0).cl == (l.getD (k - 1) sp0).cl) (Operand.tmp 53) (Operand.const (Value.bool false)) (decide ((l.getD k sp0).fr ≤ (l.getD (k - 1) sp0).tz)) false)) false) = true := by
          simp only [pickB, isLit, Bool.and_eq_true, Bool.or_eq_true, decide_eq_true_eq, beq_iff_eq]
          exact ⟨by omega, q⟩
        rw [this] at g
        cases g
      conv => whnf
      rw [e1]
      exact ⟨l.length - (k + 1), _, by omega, norm_weak [0, 5, 6, 7] [] rfl rfl, k + 1, rfl, by omega, next ⟨hb, hb2⟩, rfl⟩
  · have h := of_decide_eq_false h
    conv => whnf
    exact ⟨true, ⟨fun _ j h2 => hj j (by omega), fun _ => rfl⟩, rfl⟩
theorem sp_ext {x y : Sp} (h1 : x.cl = y.cl) (h2 : x.fr = y.fr) (h3 : x.tz = y.tz) : x = y := by
  obtain ⟨a, b, c⟩ := x
  obtain ⟨a', b', c'⟩ := y
  simp only at h1 h2 h3
  rw [h1, h2, h3]
theorem slist_eq {α : Type} (d : α) {a b : List α} (hl : a.length = b.length) (h : ∀ j, j < a.length → a.getD j d = b.getD j d) : a = b := by
  refine List.ext_getElem hl (fun j h1 h2 => ?_)
  have := h j h1
  rw [List.getD_eq_getElem?_getD, List.getD_eq_getElem?_getD, List.getElem?_eq_getElem h1, List.getElem?_eq_getElem h2] at this
  exact this
def ssI (a b : List Sp) (n : Nat) (st : St) : Prop := ∃ k : Nat, n = a.length - k ∧ k ≤ a.length ∧ (∀ j, j < k → a.getD j sp0 = b.getD j sp0) ∧ st = ⟨26, 0, [(0, spS a), (1, spS b), (5, vci .i64 (k : Int))], []⟩
theorem sameset_c (a b : List Sp) (ha : a.length ≤ 1000000000) (hb : b.length ≤ 1000000000) : CallV Try.prog 41 [spS a, spS b] [] (fun r own' => own' = [] ∧ ((a = b ∧ r = vcb true) ∨ (a ≠ b ∧ r = vcb false))) := by
  refine callV_pure Try.func41 rfl ttok ftok rfl rfl rfl (Nat.le_of_ble_eq_true rfl) ?_
  conv => whnf
  by_cases hl : a.length = b.length
  · rw [show (((a.length : Nat) : Int) != (b.length : Nat)) = false from by rw [hl]; exact bne_self_eq_false _]
    conv => whnf
    refine loopV ttok ftok (ssI a b) (env_weak [0, 1, 5] rfl) ⟨0, rfl, Nat.zero_le _, fun j hj => by omega, rfl⟩ ?_
    rintro n st ⟨k, rfl, hk, hj, rfl⟩
    conv => whnf
    refine onB_intro (fun h => ?_) (fun h => ?_)
    · have h := of_decide_eq_true h
      have hk2 : k < a.length := by omega
      conv => whnf
      refine drawV_join mixed (by kernel_rfl) ttok ?_
      conv => whnf
      refine ⟨⟨by omega, by omega⟩, ?_⟩
      conv => whnf
      refine ⟨⟨by omega, by omega⟩, ?_⟩
      conv => whnf
      simp only [ti_nat]
      refine onB_intro (fun g => ?_) (fun g => ?_)
      · conv => whnf
        refine .inr ⟨fun e => ?_, rfl⟩
        subst e
        simp at g
      · have e : a.getD k sp0 = b.getD k sp0 := by
          simp [- List.getD_eq_getElem?_getD] at g
          obtain ⟨q1, q2, q3⟩ := g
          exact sp_ext q1 q2 q3
        conv => whnf
        rw [show IntKind.i64.wrap ((k : Int) + 1) = ((k + 1 : Nat) : Int) from by rw [w_i64 (by omega) (by omega)]; omega]
        refine ⟨a.length - (k + 1), _, by omega, env_weak [0, 1, 5] rfl, k + 1, rfl, by omega, fun j h2 => ?_, rfl⟩
        rcases Nat.lt_succ_iff_lt_or_eq.1 h2 with h3 | rfl
        · exact hj j h3
        · exact e
    · have h := of_decide_eq_false h
      conv => whnf
      exact .inl ⟨slist_eq sp0 hl (fun j h2 => hj j (by omega)), rfl⟩
  · rw [show (((a.length : Nat) : Int) != (b.length : Nat)) = true from bne_iff_ne.2 (fun e => hl (by omega))]
    conv => whnf
    exact .inr ⟨fun e => hl (by rw [e]), rfl⟩
def cmpI (x y : Int) : Int := if x < y then -1 else if y < x then 1 else 0
theorem isnan_c (x : Int) : CallV Try.prog 106 [vci .u32 x] [] (fun r own' => own' = [] ∧ r = vcb false) := by
  refine callV_pure Try.func106 rfl ttok ftok rfl rfl rfl (Nat.le_of_ble_eq_true rfl) ?_
  conv => whnf
  show vcb (x != x) = _
  simp
theorem cmpU_c (x y : Int) : CallV Try.prog 85 [vci .u32 x, vci .u32 y] [] (fun r own' => own' = [] ∧ r = vci .i64 (cmpI x y)) := by
  refine callV_pure Try.func85 rfl ttok ftok rfl rfl rfl (Nat.le_of_ble_eq_true rfl) ?_
  conv => whnf
  refine call_pure (isnan_c _) rfl ?_
  rintro _ rfl
  conv => whnf
  refine call_pure (isnan_c _) rfl ?_
  rintro _ rfl
  conv => whnf
  unfold cmpI
  by_cases h : x < y
  · rw [show decide (x < y) = true from decide_eq_true h, if_pos h]
    conv => whnf
    all_goals rfl
  · rw [show decide (x < y) = false from decide_eq_false h, if_neg h]
    conv => whnf
    by_cases h2 : y < x
    · rw [show decide (x > y) = true from decide_eq_true h2, if_pos h2]
      conv => whnf
      all_goals rfl
    · rw [show decide (x > y) = false from decide_eq_false h2, if_neg h2]
      conv => whnf
      all_goals rfl
abbrev i1 (n : Int) : List IC := [vi n]
theorem two_i (a b : Int) {k : Nat} (hk : k < 2) : i1 ([a, b].getD k 0) = [i1 a, i1 b].getD k [] := by
  match k, hk with
  | 0, _ => rfl
  | 1, _ => rfl
theorem cmpOr_c (a b : Int) : CallV Try.prog 84 [.c (.sl 1 2 fun k => i1 ([a, b].getD k 0))] [] (fun r own' => own' = [] ∧ r = vci .i64 (if a = 0 then b else a)) := by
  refine callV_pure Try.func84 rfl ttok ftok rfl rfl rfl (Nat.le_of_ble_eq_true rfl) ?_
  conv => whnf
  refine loop_rounds 3 ttok ftok ?_
  conv => whnf
  refine ⟨⟨by omega, by decide⟩, ?_⟩
  conv => whnf
  by_cases ha : a = 0
  · rw [if_pos ha]
    subst ha
    conv => whnf
    refine ⟨⟨by decide, by decide⟩, ?_⟩
    conv => whnf
    by_cases hb : b = 0
    · subst hb
      conv => whnf
      try rfl
    · rw [show (([(0 : Int), b].getD (Int.toNat (IntKind.i64.wrap (0 + 1))) 0) != 0) = true from bne_iff_ne.2 hb]
      conv => whnf
      try rfl
  · rw [if_neg ha]
    rw [show (([a, b].getD (Int.toNat 0) 0) != 0) = true from bne_iff_ne.2 ha]
    conv => whnf
    try rfl
theorem idcmp_c (a b : I2) : CallV Try.prog 68 [idA a, idA b] [] (fun r own' => own' = [] ∧ r = vci .i64 (if cmpI a.1 b.1 = 0 then cmpI a.2 b.2 else cmpI a.1 b.1)) := by
  refine callV_pure Try.func68 rfl ttok ftok rfl rfl rfl (Nat.le_of_ble_eq_true rfl) ?_
  conv => whnf
  refine drawV_sched (.rd 0 (.rd 1 (.rd 2 (.rd 3 (.rd 5 (.rd 6 (.rd 7 (.rd 8 (.ef 4 (.ef 9 (.ef 10 (.ef 11 (.rd 12 (.nil)))))))))))))) [2] mixed (by kernel_rfl) ttok ftok ?_
  conv => whnf
  refine call_pure (cmpU_c a.1 b.1) rfl ?_
  rintro _ rfl
  conv => whnf
  refine call_pure (cmpU_c a.2 b.2) rfl ?_
  rintro _ rfl
  conv => whnf
  refine ⟨fun k => i1 ([cmpI a.1 b.1, cmpI a.2 b.2].getD k 0), fun k hk => two_i _ _ hk, ?_⟩
  conv => whnf
  refine ⟨fun _ _ => rfl, ?_⟩
  conv => whnf
  refine call_pure (cmpOr_c (cmpI a.1 b.1) (cmpI a.2 b.2)) rfl ?_
  rintro _ rfl
  conv => whnf
  all_goals first | rfl | exact ⟨rfl, rfl⟩
end Go.Eng
/- Sets of spans: one list for each set; sorting and merging, and laying one by one, come to it. -/
set_option linter.unusedVariables false
set_option linter.unusedSimpArgs false
namespace Go.Eng
def valS (s : Sp) : Prop := s.cl ≠ 0 ∧ s.fr < s.tz
instance (s : Sp) : Decidable (valS s) := inferInstanceAs (Decidable (s.cl ≠ 0 ∧ s.fr < s.tz))
def aheadS (s t : Sp) : Prop := s.cl < t.cl ∨ s.cl = t.cl ∧ s.tz < t.fr
instance (s t : Sp) : Decidable (aheadS s t) := inferInstanceAs (Decidable (s.cl < t.cl ∨ s.cl = t.cl ∧ s.tz < t.fr))
def inS (s : Sp) (c x : Int) : Prop := s.cl = c ∧ s.fr ≤ x ∧ x < s.tz
def hasS (l : List Sp) (c x : Int) : Prop := ∃ s, s ∈ l ∧ inS s c x
structure canon (l : List Sp) : Prop where
  val : ∀ s, s ∈ l → valS s
  pw : l.Pairwise aheadS
theorem canon.tail {s : Sp} {l : List Sp} (h : canon (s :: l)) : canon l := ⟨fun t ht => h.val t (List.mem_cons_of_mem _ ht), (List.pairwise_cons.1 h.pw).2⟩
theorem hasS_nil (c x : Int) : ¬ hasS [] c x := fun ⟨s, h, _⟩ => by cases h
theorem hasS_cons (s : Sp) (l : List Sp) (c x : Int) : hasS (s :: l) c x ↔ inS s c x ∨ hasS l c x := by
  constructor
  · rintro ⟨t, ht, h⟩
    rcases List.mem_cons.1 ht with rfl | ht
    · exact .inl h
    · exact .inr ⟨t, ht, h⟩
  · rintro (h | ⟨t, ht, h⟩)
    · exact ⟨s, List.mem_cons_self, h⟩
    · exact ⟨t, List.mem_cons_of_mem _ ht, h⟩
theorem hasS_append (a b : List Sp) (c x : Int) : hasS (a ++ b) c x ↔ hasS a c x ∨ hasS b c x := by
  induction a with
  | nil => simp [hasS_nil]
  | cons s a ih => rw [List.cons_append, hasS_cons, ih, hasS_cons]; exact or_assoc.symm
theorem hasS_perm {a b : List Sp} (h : a.Perm b) (c x : Int) : hasS a c x ↔ hasS b c x :=
  ⟨fun ⟨s, hs, hi⟩ => ⟨s, h.mem_iff.1 hs, hi⟩, fun ⟨s, hs, hi⟩ => ⟨s, h.mem_iff.2 hs, hi⟩⟩
theorem not_in_of_ahead {s : Sp} {l : List Sp} (h : canon (s :: l)) {c x : Int} (hs : inS s c x) (hl : hasS l c x) : False := by
  obtain ⟨u, hu, h1, h2, h3⟩ := hl
  obtain ⟨g1, g2, g3⟩ := hs
  rcases (List.pairwise_cons.1 h.pw).1 u hu with h4 | ⟨h4, h5⟩ <;> omega
theorem first_le {s : Sp} {l : List Sp} (h : canon (s :: l)) {c x : Int} (hp : hasS (s :: l) c x) : s.cl < c ∨ s.cl = c ∧ s.fr ≤ x := by
  have hv := (h.val s List.mem_cons_self).2
  obtain ⟨u, hu, h1, h2, h3⟩ := hp
  rcases List.mem_cons.1 hu with rfl | hu
  · exact .inr ⟨h1, h2⟩
  · rcases (List.pairwise_cons.1 h.pw).1 u hu with h4 | ⟨h4, h5⟩ <;> omega
theorem after_end {s : Sp} {l : List Sp} (h : canon (s :: l)) : ¬ hasS (s :: l) s.cl s.tz := by
  rintro ⟨u, hu, h1, h2, h3⟩
  rcases List.mem_cons.1 hu with rfl | hu
  · omega
  · rcases (List.pairwise_cons.1 h.pw).1 u hu with h4 | ⟨h4, h5⟩ <;> omega
theorem has_first {s : Sp} {l : List Sp} (h : canon (s :: l)) : hasS (s :: l) s.cl s.fr := ⟨s, List.mem_cons_self, rfl, Int.le_refl _, (h.val s List.mem_cons_self).2⟩
theorem canon_uniq : ∀ (a b : List Sp), canon a → canon b → (∀ c x, hasS a c x ↔ hasS b c x) → a = b
  | [], [], _, _, _ => rfl
  | [], t :: b, _, hb, h => absurd ((h _ _).2 (has_first hb)) (hasS_nil _ _)
  | s :: a, [], ha, _, h => absurd ((h _ _).1 (has_first ha)) (hasS_nil _ _)
  | s :: a, t :: b, ha, hb, h => by
    have h1 := first_le hb ((h _ _).1 (has_first ha))
    have h2 := first_le ha ((h _ _).2 (has_first hb))
    have hc : s.cl = t.cl := by omega
    have hf : s.fr = t.fr := by omega
    have vs := (ha.val s List.mem_cons_self).2
    have vt := (hb.val t List.mem_cons_self).2
    have hz : s.tz = t.tz := by
      rcases Int.lt_trichotomy s.tz t.tz with h3 | h3 | h3
      · exact absurd ((h s.cl s.tz).2 ⟨t, List.mem_cons_self, hc.symm, by omega, h3⟩) (after_end ha)
      · exact h3
      · exact absurd ((h t.cl t.tz).1 ⟨s, List.mem_cons_self, hc, by omega, h3⟩) (after_end hb)
    obtain rfl : s = t := sp_ext hc hf hz
    congr 1
    refine canon_uniq a b ha.tail hb.tail fun c x => ⟨fun hx => ?_, fun hx => ?_⟩
    · rcases (hasS_cons _ _ _ _).1 ((h c x).1 ((hasS_cons _ _ _ _).2 (.inr hx))) with h4 | h4
      · exact (not_in_of_ahead ha h4 hx).elim
      · exact h4
    · rcases (hasS_cons _ _ _ _).1 ((h c x).2 ((hasS_cons _ _ _ _).2 (.inr hx))) with h4 | h4
      · exact (not_in_of_ahead hb h4 hx).elim
      · exact h4
theorem aheadS_trans {s t u : Sp} (ht : valS t) (h1 : aheadS s t) (h2 : aheadS t u) : aheadS s u := by
  obtain ⟨_, hv⟩ := ht
  unfold aheadS at *
  omega
theorem mayS_canon {l : List Sp} : mayS l ↔ canon l := by
  constructor
  · intro h
    have hv : ∀ s, s ∈ l → valS s := fun s hs => by
      obtain ⟨k, hk, rfl⟩ := List.getElem_of_mem hs
      have := (h k hk).1
      rw [List.getD_eq_getElem?_getD, List.getElem?_eq_getElem hk] at this
      simp only [Option.getD_some] at this
      unfold valS; omega
    have key : ∀ (d i : Nat), i + d + 1 < l.length → aheadS (l.getD i sp0) (l.getD (i + d + 1) sp0) := by
      intro d
      induction d with
      | zero =>
        intro i hi
        have := (h (i + 0 + 1) hi).2 (by omega)
        rw [show i + 0 + 1 - 1 = i from by omega] at this
        unfold aheadS; omega
      | succ d ih =>
        intro i hi
        have h1 := ih i (by omega)
        have h2 := (h (i + (d + 1) + 1) hi).2 (by omega)
        rw [show i + (d + 1) + 1 - 1 = i + d + 1 from by omega] at h2
        refine aheadS_trans (t := l.getD (i + d + 1) sp0) ?_ h1 (by unfold aheadS; omega)
        rw [List.getD_eq_getElem?_getD, List.getElem?_eq_getElem (show i + d + 1 < l.length by omega)]
        exact hv _ (List.getElem_mem _)
    refine ⟨hv, List.pairwise_iff_getElem.2 fun i j hi hj hij => ?_⟩
    have := key (j - i - 1) i (by omega)
    rw [show i + (j - i - 1) + 1 = j from by omega] at this
    simpa [List.getD_eq_getElem?_getD, List.getElem?_eq_getElem hi, List.getElem?_eq_getElem hj] using this
  · intro h k hk
    have hg : ∀ j (hj : j < l.length), l.getD j sp0 = l[j] := fun j hj => by rw [List.getD_eq_getElem?_getD, List.getElem?_eq_getElem hj]; rfl
    refine ⟨?_, fun h0 => ?_⟩
    · rw [hg k hk]
      have := h.val _ (List.getElem_mem hk)
      unfold valS at this; omega
    · rw [hg k hk, hg (k - 1) (by omega)]
      have := List.pairwise_iff_getElem.1 h.pw (k - 1) k (by omega) hk (by omega)
      unfold aheadS at this; omega
/-! ### Laying one by one -/
def layA (s : Sp) (x : Sp) : Bool := decide (x.cl < s.cl ∨ x.cl = s.cl ∧ x.tz < s.fr)
def layB (s : Sp) (x : Sp) : Bool := decide (x.cl > s.cl ∨ x.fr > s.tz)
/-- What is ahead, what is behind, and the span, wider. -/
def layG : List Sp → List Sp × List Sp × Sp → List Sp × List Sp × Sp
  | [], r => r
  | x :: l, (a, b, s) => if layA s x = true then layG l (a ++ [x], b, s) else if layB s x = true then layG l (a, b ++ [x], s) else layG l (a, b, ⟨s.cl, min s.fr x.fr, max s.tz x.tz⟩)
def layL (l : List Sp) (s : Sp) : List Sp := let r := layG l ([], [], s); (r.1 ++ [r.2.2]) ++ r.2.1
theorem layG_ok : ∀ (l a b : List Sp) (s : Sp), canon (a ++ l) → valS s → (∀ x, x ∈ a → aheadS x s) → (∀ x, x ∈ b → aheadS s x) → canon b → (b = [] ∨ ∀ x, x ∈ l → aheadS s x) → (∀ x y, x ∈ b → y ∈ l → aheadS x y) →
    canon (((layG l (a, b, s)).1 ++ [(layG l (a, b, s)).2.2]) ++ (layG l (a, b, s)).2.1) ∧ ∀ c x, hasS (((layG l (a, b, s)).1 ++ [(layG l (a, b, s)).2.2]) ++ (layG l (a, b, s)).2.1) c x ↔ hasS a c x ∨ hasS l c x ∨ hasS b c x ∨ inS s c x
  | [], a, b, s, hc, hv, h1, h2, hb, _, _ => by
    rw [List.append_nil] at hc
    refine ⟨⟨fun x hx => ?_, ?_⟩, fun c x => ?_⟩
    · simp only [layG, List.mem_append, List.mem_singleton] at hx
      rcases hx with (hx | rfl) | hx
      · exact hc.val x hx
      · exact hv
      · exact hb.val x hx
    · simp only [layG]
      rw [List.pairwise_append, List.pairwise_append]
      refine ⟨⟨hc.pw, by simp, fun x hx y hy => ?_⟩, hb.pw, fun x hx y hy => ?_⟩
      · rw [List.mem_singleton] at hy; rw [hy]; exact h1 x hx
      · rcases List.mem_append.1 hx with hx | hx
        · exact aheadS_trans hv (h1 x hx) (h2 y hy)
        · rw [List.mem_singleton] at hx; rw [hx]; exact h2 y hy
    · simp only [layG, hasS_append, hasS_cons]
      have := hasS_nil c x
      constructor
      · rintro ((h | h | h) | h)
        · exact .inl h
        · exact .inr (.inr (.inr h))
        · exact (this h).elim
        · exact .inr (.inr (.inl h))
      · rintro (h | h | h | h)
        · exact .inl (.inl h)
        · exact (this h).elim
        · exact .inr h
        · exact .inl (.inr (.inl h))
  | x :: l, a, b, s, hc, hv, h1, h2, hb, h3, h4 => by
    have hx : valS x := hc.val x (by simp)
    have hxl : ∀ y, y ∈ l → aheadS x y := fun y hy => (List.pairwise_cons.1 (List.pairwise_append.1 hc.pw).2.1).1 y hy
    have hax : ∀ y, y ∈ a → aheadS y x := fun y hy => (List.pairwise_append.1 hc.pw).2.2 y hy x (by simp)
    have hcl : canon (a ++ l) := ⟨fun y hy => hc.val y (by rw [List.mem_append] at hy ⊢; exact hy.imp id (List.mem_cons_of_mem _)), by
      have := List.pairwise_append.1 hc.pw
      exact List.pairwise_append.2 ⟨this.1, (List.pairwise_cons.1 this.2.1).2, fun y hy z hz => this.2.2 y hy z (List.mem_cons_of_mem _ hz)⟩⟩
    obtain ⟨_, hx2⟩ := hx
    obtain ⟨hv1, hv2⟩ := hv
    unfold layG
    by_cases g1 : layA s x = true
    · rw [if_pos g1]
      have g1 := of_decide_eq_true g1
      have hb0 : b = [] := by
        rcases h3 with h3 | h3
        · exact h3
        · have := h3 x (by simp); unfold aheadS at this; omega
      subst hb0
      have := layG_ok l (a ++ [x]) [] s (by rw [List.append_assoc]; exact hc) ⟨hv1, hv2⟩ (fun y hy => by
        rcases List.mem_append.1 hy with hy | hy
        · exact h1 y hy
        · rw [List.mem_singleton] at hy; rw [hy]; exact g1) h2 hb (.inl rfl) (fun y z hy => by cases hy)
      refine ⟨this.1, fun c z => ?_⟩
      rw [this.2, hasS_append, hasS_cons, hasS_cons]
      have := hasS_nil c z
      constructor
      · rintro ((h | h | h) | h | h | h)
        · exact .inl h
        · exact .inr (.inl (.inl h))
        · exact (this h).elim
        · exact .inr (.inl (.inr h))
        · exact .inr (.inr (.inl h))
        · exact .inr (.inr (.inr h))
      · rintro (h | (h | h) | h | h)
        · exact .inl (.inl h)
        · exact .inl (.inr (.inl h))
        · exact .inr (.inl h)
        · exact .inr (.inr (.inl h))
        · exact .inr (.inr (.inr h))
    · rw [if_neg g1]
      have g1 : ¬ (x.cl < s.cl ∨ x.cl = s.cl ∧ x.tz < s.fr) := fun h => g1 (decide_eq_true h)
      by_cases g2 : layB s x = true
      · rw [if_pos g2]
        have g2 : x.cl > s.cl ∨ x.fr > s.tz := of_decide_eq_true g2
        have hsx : aheadS s x := by unfold aheadS; omega
        have := layG_ok l a (b ++ [x]) s hcl ⟨hv1, hv2⟩ h1 (fun y hy => by
          rcases List.mem_append.1 hy with hy | hy
          · exact h2 y hy
          · rw [List.mem_singleton] at hy; rw [hy]; exact hsx)
          ⟨fun y hy => by
            rcases List.mem_append.1 hy with hy | hy
            · exact hb.val y hy
            · rw [List.mem_singleton] at hy; rw [hy]; exact hc.val x (by simp), List.pairwise_append.2 ⟨hb.pw, by simp, fun y hy z hz => by
              rw [List.mem_singleton] at hz; rw [hz]; exact h4 y x hy (by simp)⟩⟩
          (.inr fun y hy => aheadS_trans ⟨(hc.val x (by simp)).1, hx2⟩ hsx (hxl y hy)) (fun y z hy hz => by
            rcases List.mem_append.1 hy with hy | hy
            · exact h4 y z hy (List.mem_cons_of_mem _ hz)
            · rw [List.mem_singleton] at hy; rw [hy]; exact hxl z hz)
        refine ⟨this.1, fun c z => ?_⟩
        rw [this.2, hasS_append, hasS_cons, hasS_cons]
        have := hasS_nil c z
        constructor
        · rintro (h | h | (h | h | h) | h)
          · exact .inl h
          · exact .inr (.inl (.inr h))
          · exact .inr (.inr (.inl h))
          · exact .inr (.inl (.inl h))
          · exact (this h).elim
          · exact .inr (.inr (.inr h))
        · rintro (h | (h | h) | h | h)
          · exact .inl h
          · exact .inr (.inr (.inl (.inr (.inl h))))
          · exact .inr (.inl h)
          · exact .inr (.inr (.inl (.inl h)))
          · exact .inr (.inr (.inr h))
      · rw [if_neg g2]
        have g2 : ¬ (x.cl > s.cl ∨ x.fr > s.tz) := fun h => g2 (decide_eq_true h)
        have ecl : x.cl = s.cl := by omega
        have hb0 : b = [] := by
          rcases h3 with h3 | h3
          · exact h3
          · have := h3 x (by simp); unfold aheadS at this; omega
        subst hb0
        have := layG_ok l a [] ⟨s.cl, min s.fr x.fr, max s.tz x.tz⟩ hcl ⟨hv1, by show min s.fr x.fr < max s.tz x.tz; omega⟩ (fun y hy => by
          have q1 := h1 y hy
          have q2 := hax y hy
          unfold aheadS at *
          show y.cl < s.cl ∨ y.cl = s.cl ∧ y.tz < min s.fr x.fr
          omega) (fun y hy => by cases hy) ⟨fun y hy => (by cases hy), List.Pairwise.nil⟩ (.inl rfl) (fun y z hy => by cases hy)
        refine ⟨this.1, fun c z => ?_⟩
        rw [this.2, hasS_cons]
        have hn := hasS_nil c z
        have hi : inS ⟨s.cl, min s.fr x.fr, max s.tz x.tz⟩ c z ↔ inS x c z ∨ inS s c z := by
          unfold inS
          show s.cl = c ∧ min s.fr x.fr ≤ z ∧ z < max s.tz x.tz ↔ _
          omega
        rw [hi]
        constructor
        · rintro (h | h | h | h | h)
          · exact .inl h
          · exact .inr (.inl (.inr h))
          · exact (hn h).elim
          · exact .inr (.inl (.inl h))
          · exact .inr (.inr (.inr h))
        · rintro (h | (h | h) | h | h)
          · exact .inl h
          · exact .inr (.inr (.inr (.inl h)))
          · exact .inr (.inl h)
          · exact (hn h).elim
          · exact .inr (.inr (.inr (.inr h)))
theorem layL_ok {l : List Sp} {s : Sp} (hl : canon l) (hs : valS s) : canon (layL l s) ∧ ∀ c x, hasS (layL l s) c x ↔ hasS l c x ∨ inS s c x := by
  have h := layG_ok l [] [] s hl hs (fun x hx => by cases hx) (fun x hx => by cases hx) ⟨fun y hy => (by cases hy), List.Pairwise.nil⟩ (.inl rfl) (fun y z hy => by cases hy)
  refine ⟨h.1, fun c x => (h.2 c x).trans ?_⟩
  have hn := hasS_nil c x
  constructor
  · rintro (h | h | h | h)
    · exact (hn h).elim
    · exact .inl h
    · exact (hn h).elim
    · exact .inr h
  · rintro (h | h)
    · exact .inr (.inl h)
    · exact .inr (.inr (.inr h))
/-- The reference: each one is laid into what is there. -/
def setL (l : List Sp) : List Sp := l.foldl (fun o s => if valS s then layL o s else o) []
theorem setL_snoc (l : List Sp) (s : Sp) : setL (l ++ [s]) = if valS s then layL (setL l) s else setL l := by simp [setL]
def valid (l : List Sp) : List Sp := l.filter fun s => decide (valS s)
theorem setL_ok (l : List Sp) : canon (setL l) ∧ ∀ c x, hasS (setL l) c x ↔ hasS (valid l) c x := by
  suffices h : ∀ (n : Nat) (l : List Sp), l.length = n → (canon (setL l) ∧ ∀ c x, hasS (setL l) c x ↔ hasS (valid l) c x) from h _ l rfl
  intro n
  induction n with
  | zero =>
    intro l hl
    obtain rfl := List.eq_nil_of_length_eq_zero hl
    exact ⟨⟨fun y hy => (by cases hy), List.Pairwise.nil⟩, fun c x => Iff.rfl⟩
  | succ n ih =>
    intro l hl
    have hne : l ≠ [] := fun e => by subst e; cases hl
    obtain ⟨l', s, rfl⟩ : ∃ l' s, l = l' ++ [s] := ⟨l.dropLast, l.getLast hne, (List.dropLast_concat_getLast hne).symm⟩
    obtain ⟨h1, h2⟩ := ih l' (by simpa using hl)
    rw [setL_snoc]
    have hv : valid (l' ++ [s]) = valid l' ++ valid [s] := List.filter_append ..
    by_cases hs : valS s
    · rw [if_pos hs]
      have h3 := layL_ok h1 hs
      refine ⟨h3.1, fun c x => ?_⟩
      rw [h3.2, h2, hv, hasS_append, show valid [s] = [s] from by simp [valid, hs], hasS_cons]
      have hn := hasS_nil c x
      constructor
      · rintro (h | h)
        · exact .inl h
        · exact .inr (.inl h)
      · rintro (h | h | h)
        · exact .inl h
        · exact .inr h
        · exact (hn h).elim
    · rw [if_neg hs, hv, show valid [s] = [] from by simp [valid, hs], List.append_nil]
      exact ⟨h1, h2⟩
/-! ### Sorting and merging -/
def sizeS (l : List Sp) : Int := (l.map fun s => s.tz - s.fr).foldr (· + ·) 0
theorem sizeS_append (a b : List Sp) : sizeS (a ++ b) = sizeS a + sizeS b := by
  induction a with
  | nil => simp [sizeS]
  | cons s a ih => simp only [sizeS, List.cons_append, List.map_cons, List.foldr_cons] at *; omega
theorem sizeS_perm {a b : List Sp} (h : a.Perm b) : sizeS a = sizeS b := by
  induction h with
  | nil => rfl
  | cons x _ ih => simp only [sizeS, List.map_cons, List.foldr_cons] at *; omega
  | swap x y l => simp only [sizeS, List.map_cons, List.foldr_cons]; omega
  | trans _ _ h1 h2 => omega
/-- One more, in order: into the last one, where they meet; or behind it. -/
def mrg (o : List Sp) (s : Sp) : List Sp :=
  match o.getLast? with
  | some t => if t.cl = s.cl ∧ s.fr ≤ t.tz then o.dropLast ++ [⟨t.cl, t.fr, max t.tz s.tz⟩] else o ++ [s]
  | none => [s]
theorem mrg_last (o : List Sp) (t s : Sp) : mrg (o ++ [t]) s = if t.cl = s.cl ∧ s.fr ≤ t.tz then o ++ [⟨t.cl, t.fr, max t.tz s.tz⟩] else (o ++ [t]) ++ [s] := by
  unfold mrg
  rw [List.getLast?_concat, List.dropLast_concat]
def lexS (s t : Sp) : Prop := s.cl < t.cl ∨ s.cl = t.cl ∧ s.fr ≤ t.fr
theorem snoc_cases (o : List Sp) : o = [] ∨ ∃ o' t, o = o' ++ [t] := by
  by_cases h : o = []
  · exact .inl h
  · exact .inr ⟨o.dropLast, o.getLast h, (List.dropLast_concat_getLast h).symm⟩
theorem mrg_ok {o : List Sp} {s : Sp} (ho : canon o) (hs : valS s) (hlex : ∀ t, t ∈ o → lexS t s) :
    canon (mrg o s) ∧ (∀ c x, hasS (mrg o s) c x ↔ hasS o c x ∨ inS s c x) ∧ sizeS (mrg o s) ≤ sizeS o + sizeS [s] ∧ (mrg o s).length ≤ o.length + 1 ∧ ∀ u, lexS s u → ∀ t, t ∈ mrg o s → lexS t u := by
  obtain ⟨hs1, hs2⟩ := hs
  rcases snoc_cases o with rfl | ⟨o, t, rfl⟩
  · refine ⟨⟨fun y hy => ?_, by simp [mrg]⟩, fun c x => ?_, by simp [mrg, sizeS], by simp [mrg], fun u hu t ht => ?_⟩
    · simp [mrg] at hy; rw [hy]; exact ⟨hs1, hs2⟩
    · simp only [mrg, List.getLast?_nil, hasS_cons]
      exact or_comm
    · simp [mrg] at ht; rw [ht]; exact hu
  · rw [mrg_last]
    have ht : valS t := ho.val t (by simp)
    have hlt := hlex t (by simp)
    have hp := List.pairwise_append.1 ho.pw
    have hot : ∀ y, y ∈ o → aheadS y t := fun y hy => hp.2.2 y hy t (by simp)
    obtain ⟨ht1, ht2⟩ := ht
    by_cases h : t.cl = s.cl ∧ s.fr ≤ t.tz
    · rw [if_pos h]
      have hfr : t.fr ≤ s.fr := by unfold lexS at hlt; omega
      refine ⟨⟨fun y hy => ?_, List.pairwise_append.2 ⟨hp.1, by simp, fun y hy z hz => ?_⟩⟩, fun c x => ?_, ?_, by simp, fun u hu y hy => ?_⟩
      · rcases List.mem_append.1 hy with hy | hy
        · exact ho.val y (by simp [hy])
        · rw [List.mem_singleton] at hy; rw [hy]; exact ⟨ht1, by show t.fr < max t.tz s.tz; omega⟩
      · rw [List.mem_singleton] at hz; rw [hz]
        have := hot y hy
        unfold aheadS at *
        exact this
      · rw [hasS_append, hasS_cons, hasS_append, hasS_cons]
        have hn := hasS_nil c x
        have hi : inS ⟨t.cl, t.fr, max t.tz s.tz⟩ c x ↔ inS t c x ∨ inS s c x := by
          unfold inS
          show t.cl = c ∧ t.fr ≤ x ∧ x < max t.tz s.tz ↔ _
          omega
        rw [hi]
        constructor
        · rintro (h | (h | h) | h)
          · exact .inl (.inl h)
          · exact .inl (.inr (.inl h))
          · exact .inr h
          · exact (hn h).elim
        · rintro ((h | h | h) | h)
          · exact .inl h
          · exact .inr (.inl (.inl h))
          · exact (hn h).elim
          · exact .inr (.inl (.inr h))
      · rw [sizeS_append, sizeS_append]
        simp only [sizeS, List.map_cons, List.map_nil, List.foldr_cons, List.foldr_nil]
        omega
      · rcases List.mem_append.1 hy with hy | hy
        · have := hlex y (by simp [hy]); unfold lexS at *; omega
        · rw [List.mem_singleton] at hy; rw [hy]; unfold lexS at *; show t.cl < u.cl ∨ t.cl = u.cl ∧ t.fr ≤ u.fr; omega
    · rw [if_neg h]
      have hts : aheadS t s := by unfold lexS at hlt; unfold aheadS; omega
      refine ⟨⟨fun y hy => ?_, List.pairwise_append.2 ⟨ho.pw, by simp, fun y hy z hz => ?_⟩⟩, fun c x => ?_, ?_, by simp, fun u hu y hy => ?_⟩
      · rcases List.mem_append.1 hy with hy | hy
        · exact ho.val y hy
        · rw [List.mem_singleton] at hy; rw [hy]; exact ⟨hs1, hs2⟩
      · rw [List.mem_singleton] at hz; rw [hz]
        rcases List.mem_append.1 hy with hy | hy
        · exact aheadS_trans ⟨ht1, ht2⟩ (hot y hy) hts
        · rw [List.mem_singleton] at hy; rw [hy]; exact hts
      · rw [hasS_append (o ++ [t]), hasS_cons]
        have hn := hasS_nil c x
        constructor
        · rintro (h | h | h)
          · exact .inl h
          · exact .inr h
          · exact (hn h).elim
        · rintro (h | h)
          · exact .inl h
          · exact .inr (.inl h)
      · rw [sizeS_append (o ++ [t])]; omega
      · rcases List.mem_append.1 hy with hy | hy
        · have := hlex y hy; unfold lexS at *; omega
        · rw [List.mem_singleton] at hy; rw [hy]; exact hu
def mrgL (l : List Sp) : List Sp := l.foldl mrg []
theorem mrgL_snoc (l : List Sp) (s : Sp) : mrgL (l ++ [s]) = mrg (mrgL l) s := by simp [mrgL]
theorem mrgL_ok (l : List Sp) (hv : ∀ s, s ∈ l → valS s) (hp : l.Pairwise lexS) :
    canon (mrgL l) ∧ (∀ c x, hasS (mrgL l) c x ↔ hasS l c x) ∧ sizeS (mrgL l) ≤ sizeS l ∧ (mrgL l).length ≤ l.length ∧ ∀ u, (∀ t, t ∈ l → lexS t u) → ∀ t, t ∈ mrgL l → lexS t u := by
  suffices h : ∀ (n : Nat) (l : List Sp), l.length = n → (∀ s, s ∈ l → valS s) → l.Pairwise lexS → (canon (mrgL l) ∧ (∀ c x, hasS (mrgL l) c x ↔ hasS l c x) ∧ sizeS (mrgL l) ≤ sizeS l ∧ (mrgL l).length ≤ l.length ∧ ∀ u, (∀ t, t ∈ l → lexS t u) → ∀ t, t ∈ mrgL l → lexS t u) from h _ l rfl hv hp
  clear hv hp l
  intro n
  induction n with
  | zero =>
    intro l hl _ _
    obtain rfl := List.eq_nil_of_length_eq_zero hl
    exact ⟨⟨fun y hy => (by cases hy), List.Pairwise.nil⟩, fun c x => Iff.rfl, Int.le_refl _, Nat.le_refl _, fun u _ t ht => by cases ht⟩
  | succ n ih =>
    intro l hl hv hp
    rcases snoc_cases l with rfl | ⟨l, s, rfl⟩
    · cases hl
    have hp' := List.pairwise_append.1 hp
    obtain ⟨h1, h2, h3, h4, h5⟩ := ih l (by simpa using hl) (fun t ht => hv t (by simp [ht])) hp'.1
    rw [mrgL_snoc]
    obtain ⟨g1, g2, g3, g4, g5⟩ := mrg_ok h1 (hv s (by simp)) (h5 s fun t ht => hp'.2.2 t ht s (by simp))
    refine ⟨g1, fun c x => ?_, ?_, ?_, fun u hu => g5 u (hu s (by simp))⟩
    · rw [g2, h2, hasS_append, hasS_cons]
      have hn := hasS_nil c x
      constructor
      · rintro (h | h)
        · exact .inl h
        · exact .inr (.inl h)
      · rintro (h | h | h)
        · exact .inl h
        · exact .inr h
        · exact (hn h).elim
    · rw [sizeS_append]; omega
    · simp; omega
/-- What sorting and merging comes to. -/
structure ofS (l o : List Sp) : Prop where
  can : canon o
  has : ∀ c x, hasS o c x ↔ hasS (valid l) c x
  size : sizeS o ≤ sizeS (valid l)
  len : o.length ≤ l.length
theorem ofS_of {l ys : List Sp} (hp : ys.Perm (valid l)) (hs : ys.Pairwise lexS) : ofS l (mrgL ys) := by
  have hv : ∀ s, s ∈ ys → valS s := fun s h => by
    have := hp.mem_iff.1 h
    simp only [valid, List.mem_filter, decide_eq_true_eq] at this
    exact this.2
  obtain ⟨h1, h2, h3, h4, _⟩ := mrgL_ok ys hv hs
  exact ⟨h1, fun c x => (h2 c x).trans (hasS_perm hp c x), by rw [← sizeS_perm hp]; exact h3, Nat.le_trans h4 (by rw [hp.length_eq]; exact List.length_filter_le _ _)⟩
theorem ofS_set {l o : List Sp} (h : ofS l o) : o = setL l := canon_uniq _ _ h.can (setL_ok l).1 fun c x => (h.has c x).trans ((setL_ok l).2 c x).symm
theorem valid_canon {l : List Sp} (h : canon l) : valid l = l := List.filter_eq_self.2 fun s hs => decide_eq_true (h.val s hs)
theorem setL_self {l : List Sp} (h : canon l) : setL l = l := canon_uniq _ _ (setL_ok l).1 h fun c x => by rw [(setL_ok l).2, valid_canon h]
theorem valid_append (a b : List Sp) : valid (a ++ b) = valid a ++ valid b := List.filter_append ..
theorem setL_join (a b : List Sp) : setL (setL a ++ setL b) = setL (a ++ b) := canon_uniq _ _ (setL_ok _).1 (setL_ok _).1 fun c x => by
  rw [(setL_ok _).2, (setL_ok _).2, valid_append, valid_append, valid_canon (setL_ok a).1, valid_canon (setL_ok b).1, hasS_append, hasS_append, (setL_ok a).2, (setL_ok b).2]
theorem setL_perm {a b : List Sp} (h : a.Perm b) : setL a = setL b := canon_uniq _ _ (setL_ok _).1 (setL_ok _).1 fun c x => by
  rw [(setL_ok _).2, (setL_ok _).2]; exact hasS_perm (h.filter _) c x
end Go.Eng
/- The reference's sets: laying one by one, asking, counting. -/
set_option linter.unusedVariables false
set_option linter.unusedSimpArgs false
set_option maxRecDepth 100000
set_option maxHeartbeats 4000000
namespace Go.Eng
open Go Go.RowKit Go.Proofs
abbrev spR (l : List Sp) : Nat → List IC := fun k => spF (l.getD k sp0)
theorem drop_sp {l : List Sp} {k : Nat} (h : k < l.length) : l.drop k = l.getD k sp0 :: l.drop (k + 1) := by
  rw [List.drop_eq_getElem_cons h, List.getD_eq_getElem?_getD, List.getElem?_eq_getElem h]; rfl
def lyI (l : List Sp) (s : Sp) (m : Nat) (st : St) : Prop := ∃ (k : Nat) (a b : List Sp) (t : Sp), m = l.length - k ∧ k ≤ l.length ∧ a.length ≤ k ∧ b.length ≤ k ∧ layG l ([], [], s) = layG (l.drop k) (a, b, t) ∧
  st = ⟨76, 0, [(0, spS l), (3, .c (.own 0 0)), (5, .c (.row 1)), (6, .c (.row 2)), (7, vci .i64 (k : Int))], [some (.cells 87 (spF t)), some (.row 87 3 a.length (spR a)), some (.row 87 3 b.length (spR b))]⟩
theorem i64_s {k : Nat} (hk : k ≤ 1000000000000) : IntKind.i64.wrap ((k : Int) + 1) = ((k + 1 : Nat) : Int) := by rw [w_i64 (by omega) (by omega)]; omega
/-- An append of a list. -/
theorem appL {α : Type} {enc : α → List IC} {d : α} {l b : List α} {f g : Nat → List IC} {K : Nat → (Nat → List IC) → Prop} (hf : ∀ k, k < l.length → f k = enc (l.getD k d)) (hg : ∀ k, k < b.length → g k = enc (b.getD k d)) (h : K (l ++ b).length fun k => enc ((l ++ b).getD k d)) :
    ∃ (n' : Nat) (f' : Nat → List IC), n' = l.length + b.length ∧ (∀ k, k < l.length → f' k = f k) ∧ (∀ k, k < b.length → f' (l.length + k) = g k) ∧ K n' f' := by
  refine ⟨_, _, List.length_append, fun k hk => ?_, fun k hk => ?_, h⟩
  · rw [hf k hk]
    simp [List.getD_eq_getElem?_getD, List.getElem?_append_left hk]
  · rw [hg k hk, List.getD_eq_getElem?_getD, List.getElem?_append_right (by omega), Nat.add_sub_cancel_left, List.getD_eq_getElem?_getD]
theorem minI_eq (a b : Int) : minI a b = min a b := by unfold minI; omega
theorem maxI_eq (a b : Int) : maxI a b = max a b := by unfold maxI; omega
theorem lay_c (l : List Sp) (hl : l.length ≤ 1000000) (s : Sp) : CallV Try.prog 78 [spS l, .agg (spF s)] [] (fun r own' => own' = [] ∧ r = spS (layL l s)) := by
  refine callV_pure Try.func78 rfl ttok ftok rfl rfl rfl (Nat.le_of_ble_eq_true rfl) ?_
  conv => whnf
  refine loopV ttok ftok (lyI l s) ((nil_row 5 87 3 (spR []) rfl).trans ((nil_row 6 87 3 (spR []) rfl).trans (norm_weak [0, 3, 5, 6, 7] [some 0, some 1, some 2] rfl rfl))) ⟨0, [], [], s, rfl, Nat.zero_le _, Nat.le_refl _, Nat.le_refl _, rfl, rfl⟩ ?_
  rintro m st ⟨k, a, b, t, rfl, hk, ha, hb, hj, rfl⟩
  have e1 := i64_s (k := k) (by omega)
  conv => whnf
  refine onB_intro (fun h => ?_) (fun h => ?_)
  · have h := of_decide_eq_true h
    have hkl : k < l.length := by omega
    rw [drop_sp hkl, layG] at hj
    conv => whnf
    refine ⟨⟨by omega, by omega⟩, ?_⟩
    conv => whnf
    rw [ti_nat]
    generalize hx : l.getD k sp0 = x at hj
    refine onB_intro (fun g => ?_) (fun g => ?_)
    · have g : layA t x = true := by
        simp [pickB, isLit] at g
        exact decide_eq_true g
      rw [if_pos g] at hj
      conv => whnf
      refine ⟨fun _ => spF x, fun j hj2 => ?_, ?_⟩
      · obtain rfl : j = 0 := by omega
        rfl
      conv => whnf
      refine ⟨⟨by (try simp only [List.length_append, List.length_singleton]); omega, by show (List.length a + 1) * 12 ≤ _; (try simp only [List.length_append, List.length_singleton]); omega⟩, ?_⟩
      conv => whnf
      refine app1 (enc := spF) (d := sp0) (l := a) x (fun k hk => rfl) rfl ?_
      conv => whnf
      rw [e1]
      exact ⟨l.length - (k + 1), _, by omega, norm_weak [0, 3, 5, 6, 7] [some 0, some 5, some 2] rfl rfl, k + 1, a ++ [x], b, t, rfl, by omega, by simp; omega, by omega, hj, rfl⟩
    have g : ¬ layA t x = true := fun e => by
      have := of_decide_eq_true e
      simp [pickB, isLit] at g
      omega
    rw [if_neg g] at hj
    conv => whnf
    refine onB_intro (fun g2 => ?_) (fun g2 => ?_)
    · have g2 : layB t x = true := by
        simp [pickB, isLit] at g2
        exact decide_eq_true (by omega)
      rw [if_pos g2] at hj
      conv => whnf
      refine ⟨fun _ => spF x, fun j hj2 => ?_, ?_⟩
      · obtain rfl : j = 0 := by omega
        rfl
      conv => whnf
      refine ⟨⟨by (try simp only [List.length_append, List.length_singleton]); omega, by show (List.length b + 1) * 12 ≤ _; (try simp only [List.length_append, List.length_singleton]); omega⟩, ?_⟩
      conv => whnf
      refine app1 (enc := spF) (d := sp0) (l := b) x (fun k hk => rfl) rfl ?_
      conv => whnf
      rw [e1]
      exact ⟨l.length - (k + 1), _, by omega, norm_weak [0, 3, 5, 6, 7] [some 0, some 1, some 5] rfl rfl, k + 1, a, b ++ [x], t, rfl, by omega, by omega, by simp; omega, hj, rfl⟩
    have g2 : ¬ layB t x = true := fun e => by
      have := of_decide_eq_true e
      simp [pickB, isLit] at g2
      omega
    rw [if_neg g2] at hj
    conv => whnf
    rw [e1]
    rw [← minI_eq, ← maxI_eq] at hj
    refine ⟨l.length - (k + 1), _, by omega, norm_weak [0, 3, 5, 6, 7] [some 0, some 1, some 2] rfl rfl, k + 1, a, b, _, rfl, by omega, by omega, by omega, hj, rfl⟩
  · have h := of_decide_eq_false h
    have hk2 : k = l.length := by omega
    subst hk2
    rw [List.drop_length, layG] at hj
    have hl2 : layL l s = (a ++ [t]) ++ b := by unfold layL; rw [hj]
    conv => whnf
    refine ⟨fun _ => spF t, fun j hj2 => ?_, ?_⟩
    · obtain rfl : j = 0 := by omega
      rfl
    conv => whnf
    refine ⟨⟨by (try simp only [List.length_append, List.length_singleton]); omega, by show (List.length a + 1) * 12 ≤ _; (try simp only [List.length_append, List.length_singleton]); omega⟩, ?_⟩
    conv => whnf
    refine app1 (enc := spF) (d := sp0) (l := a) t (fun k hk => rfl) rfl ?_
    conv => whnf
    refine ⟨⟨by simp only [List.length_append, List.length_singleton]; omega, by show (List.length (a ++ [t]) + b.length) * 12 ≤ _; simp only [List.length_append, List.length_singleton]; omega⟩, ?_⟩
    conv => whnf
    refine appL (enc := spF) (d := sp0) (l := a ++ [t]) (b := b) (fun k hk => rfl) (fun k hk => rfl) ?_
    conv => whnf
    refine ⟨fun _ _ => rfl, ?_⟩
    conv => whnf
    rw [hl2]
    all_goals first | rfl | exact ⟨rfl, rfl⟩
end Go.Eng
