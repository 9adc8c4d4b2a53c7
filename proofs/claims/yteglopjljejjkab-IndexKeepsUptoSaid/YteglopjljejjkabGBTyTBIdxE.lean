/- A part of the proof: what the functions of the program come to, told by a small reckoner of states. -/
import Derived.Test.YteglopjljejjkabGA23TA31
import Derived.Test.YteglopjljejjkabProg
import Derived.KernelRfl
namespace Go.Eng
open Go Go.RowKit Go.Proofs
instance : HasGl Try.prog := ⟨fun _ => True, fun _ _ => trivial⟩
def ti1 : TI := ⟨1, false, (TypeDesc.func #[] #[] false), Value.nilFunc, 8, false, false, false⟩
theorem tf1 : TF Try.prog 1 ti1 := ⟨Try.sizeOf1, Try.isAgg1, Try.underlying1, Try.zeroValue1, by kernel_rfl, by kernel_rfl, by kernel_rfl, by kernel_rfl⟩
def ti2 : TI := ⟨1, false, (TypeDesc.int IntKind.i64), (Value.int IntKind.i64 0), 8, false, false, true⟩
theorem tf2 : TF Try.prog 2 ti2 := ⟨Try.sizeOf2, Try.isAgg2, Try.underlying2, Try.zeroValue2, by kernel_rfl, by kernel_rfl, by kernel_rfl, by kernel_rfl⟩
def ti3 : TI := ⟨1, false, (TypeDesc.int IntKind.i64), (Value.int IntKind.i64 0), 8, false, false, true⟩
theorem tf3 : TF Try.prog 3 ti3 := ⟨Try.sizeOf3, Try.isAgg3, Try.underlying3, Try.zeroValue3, by kernel_rfl, by kernel_rfl, by kernel_rfl, by kernel_rfl⟩
def ti4 : TI := ⟨1, false, TypeDesc.bool, (Value.bool false), 1, false, false, true⟩
theorem tf4 : TF Try.prog 4 ti4 := ⟨Try.sizeOf4, Try.isAgg4, Try.underlying4, Try.zeroValue4, by kernel_rfl, by kernel_rfl, by kernel_rfl, by kernel_rfl⟩
def ti5 : TI := ⟨1, false, (TypeDesc.int IntKind.u8), (Value.int IntKind.u8 0), 1, false, false, true⟩
theorem tf5 : TF Try.prog 5 ti5 := ⟨Try.sizeOf5, Try.isAgg5, Try.underlying5, Try.zeroValue5, by kernel_rfl, by kernel_rfl, by kernel_rfl, by kernel_rfl⟩
def ti6 : TI := ⟨1, false, (TypeDesc.int IntKind.u8), (Value.int IntKind.u8 0), 1, false, false, true⟩
theorem tf6 : TF Try.prog 6 ti6 := ⟨Try.sizeOf6, Try.isAgg6, Try.underlying6, Try.zeroValue6, by kernel_rfl, by kernel_rfl, by kernel_rfl, by kernel_rfl⟩
def ti9 : TI := ⟨1, false, TypeDesc.string, (Value.string { data := #[] }), 16, false, false, true⟩
theorem tf9 : TF Try.prog 9 ti9 := ⟨Try.sizeOf9, Try.isAgg9, Try.underlying9, Try.zeroValue9, by kernel_rfl, by kernel_rfl, by kernel_rfl, by kernel_rfl⟩
def ti10 : TI := ⟨1, false, TypeDesc.string, (Value.string { data := #[] }), 16, false, false, true⟩
theorem tf10 : TF Try.prog 10 ti10 := ⟨Try.sizeOf10, Try.isAgg10, Try.underlying10, Try.zeroValue10, by kernel_rfl, by kernel_rfl, by kernel_rfl, by kernel_rfl⟩
def ti11 : TI := ⟨1, false, TypeDesc.string, (Value.string { data := #[] }), 16, false, false, true⟩
theorem tf11 : TF Try.prog 11 ti11 := ⟨Try.sizeOf11, Try.isAgg11, Try.underlying11, Try.zeroValue11, by kernel_rfl, by kernel_rfl, by kernel_rfl, by kernel_rfl⟩
def ti12 : TI := ⟨1, false, (TypeDesc.int IntKind.u64), (Value.int IntKind.u64 0), 8, false, false, true⟩
theorem tf12 : TF Try.prog 12 ti12 := ⟨Try.sizeOf12, Try.isAgg12, Try.underlying12, Try.zeroValue12, by kernel_rfl, by kernel_rfl, by kernel_rfl, by kernel_rfl⟩
def ti15 : TI := ⟨1, false, (TypeDesc.pointer 195), (Value.pointer none), 8, false, false, true⟩
theorem tf15 : TF Try.prog 15 ti15 := ⟨Try.sizeOf15, Try.isAgg15, Try.underlying15, Try.zeroValue15, by kernel_rfl, by kernel_rfl, by kernel_rfl, by kernel_rfl⟩
def ti16 : TI := ⟨1, false, (TypeDesc.pointer 198), (Value.pointer none), 8, false, false, true⟩
theorem tf16 : TF Try.prog 16 ti16 := ⟨Try.sizeOf16, Try.isAgg16, Try.underlying16, Try.zeroValue16, by kernel_rfl, by kernel_rfl, by kernel_rfl, by kernel_rfl⟩
def ti17 : TI := ⟨1, false, (TypeDesc.pointer 206), (Value.pointer none), 8, false, false, true⟩
theorem tf17 : TF Try.prog 17 ti17 := ⟨Try.sizeOf17, Try.isAgg17, Try.underlying17, Try.zeroValue17, by kernel_rfl, by kernel_rfl, by kernel_rfl, by kernel_rfl⟩
def ti20 : TI := ⟨1, false, (TypeDesc.interface #[]), Value.nilIface, 16, false, false, true⟩
theorem tf20 : TF Try.prog 20 ti20 := ⟨Try.sizeOf20, Try.isAgg20, Try.underlying20, Try.zeroValue20, by kernel_rfl, by kernel_rfl, by kernel_rfl, by kernel_rfl⟩
def ti21 : TI := ⟨1, false, (TypeDesc.int IntKind.i32), (Value.int IntKind.i32 0), 4, false, false, true⟩
theorem tf21 : TF Try.prog 21 ti21 := ⟨Try.sizeOf21, Try.isAgg21, Try.underlying21, Try.zeroValue21, by kernel_rfl, by kernel_rfl, by kernel_rfl, by kernel_rfl⟩
def ti22 : TI := ⟨1, false, (TypeDesc.slice 90), (Value.slice none 0 0), 24, false, false, false⟩
theorem tf22 : TF Try.prog 22 ti22 := ⟨Try.sizeOf22, Try.isAgg22, Try.underlying22, Try.zeroValue22, by kernel_rfl, by kernel_rfl, by kernel_rfl, by kernel_rfl⟩
def ti23 : TI := ⟨1, false, (TypeDesc.func #[] #[4] false), Value.nilFunc, 8, false, false, false⟩
theorem tf23 : TF Try.prog 23 ti23 := ⟨Try.sizeOf23, Try.isAgg23, Try.underlying23, Try.zeroValue23, by kernel_rfl, by kernel_rfl, by kernel_rfl, by kernel_rfl⟩
def ti24 : TI := ⟨1, false, (TypeDesc.func #[22] #[4] false), Value.nilFunc, 8, false, false, false⟩
theorem tf24 : TF Try.prog 24 ti24 := ⟨Try.sizeOf24, Try.isAgg24, Try.underlying24, Try.zeroValue24, by kernel_rfl, by kernel_rfl, by kernel_rfl, by kernel_rfl⟩
def ti25 : TI := ⟨1, false, (TypeDesc.func #[22, 22] #[22] false), Value.nilFunc, 8, false, false, false⟩
theorem tf25 : TF Try.prog 25 ti25 := ⟨Try.sizeOf25, Try.isAgg25, Try.underlying25, Try.zeroValue25, by kernel_rfl, by kernel_rfl, by kernel_rfl, by kernel_rfl⟩
def ti26 : TI := ⟨1, false, (TypeDesc.func #[22, 22] #[4] false), Value.nilFunc, 8, false, false, false⟩
theorem tf26 : TF Try.prog 26 ti26 := ⟨Try.sizeOf26, Try.isAgg26, Try.underlying26, Try.zeroValue26, by kernel_rfl, by kernel_rfl, by kernel_rfl, by kernel_rfl⟩
def ti27 : TI := ⟨1, false, (TypeDesc.func #[22, 22, 22] #[4] false), Value.nilFunc, 8, false, false, false⟩
theorem tf27 : TF Try.prog 27 ti27 := ⟨Try.sizeOf27, Try.isAgg27, Try.underlying27, Try.zeroValue27, by kernel_rfl, by kernel_rfl, by kernel_rfl, by kernel_rfl⟩
def ti28 : TI := ⟨1, false, (TypeDesc.slice 41), (Value.slice none 0 0), 24, false, false, false⟩
theorem tf28 : TF Try.prog 28 ti28 := ⟨Try.sizeOf28, Try.isAgg28, Try.underlying28, Try.zeroValue28, by kernel_rfl, by kernel_rfl, by kernel_rfl, by kernel_rfl⟩
def ti29 : TI := ⟨1, false, (TypeDesc.func #[28] #[28] false), Value.nilFunc, 8, false, false, false⟩
theorem tf29 : TF Try.prog 29 ti29 := ⟨Try.sizeOf29, Try.isAgg29, Try.underlying29, Try.zeroValue29, by kernel_rfl, by kernel_rfl, by kernel_rfl, by kernel_rfl⟩
def ti30 : TI := ⟨1, false, (TypeDesc.slice 97), (Value.slice none 0 0), 24, false, false, false⟩
theorem tf30 : TF Try.prog 30 ti30 := ⟨Try.sizeOf30, Try.isAgg30, Try.underlying30, Try.zeroValue30, by kernel_rfl, by kernel_rfl, by kernel_rfl, by kernel_rfl⟩
def ti31 : TI := ⟨3, true, (TypeDesc.struct #[{ name := "l", type := 30, offset := 0, embedded := false, tag := "", pkgPath := "surcingle/index", byteOffset := 0 }, { name := "len", type := 3, offset := 1, embedded := false, tag := "", pkgPath := "surcingle/index", byteOffset := 24 }, { name := "shown", type := 3, offset := 2, embedded := false, tag := "", pkgPath := "surcingle/index", byteOffset := 32 }]), (Value.agg #[Value.slice none 0 0, Value.int IntKind.i64 0, Value.int IntKind.i64 0]), 40, false, false, false⟩
theorem tf31 : TF Try.prog 31 ti31 := ⟨Try.sizeOf31, Try.isAgg31, Try.underlying31, Try.zeroValue31, by kernel_rfl, by kernel_rfl, by kernel_rfl, by kernel_rfl⟩
def ti32 : TI := ⟨3, true, (TypeDesc.struct #[{ name := "l", type := 30, offset := 0, embedded := false, tag := "", pkgPath := "surcingle/index", byteOffset := 0 }, { name := "len", type := 3, offset := 1, embedded := false, tag := "", pkgPath := "surcingle/index", byteOffset := 24 }, { name := "shown", type := 3, offset := 2, embedded := false, tag := "", pkgPath := "surcingle/index", byteOffset := 32 }]), (Value.agg #[Value.slice none 0 0, Value.int IntKind.i64 0, Value.int IntKind.i64 0]), 40, false, false, false⟩
theorem tf32 : TF Try.prog 32 ti32 := ⟨Try.sizeOf32, Try.isAgg32, Try.underlying32, Try.zeroValue32, by kernel_rfl, by kernel_rfl, by kernel_rfl, by kernel_rfl⟩
def ti33 : TI := ⟨1, false, (TypeDesc.interface #[("Error", 193)]), Value.nilIface, 16, false, true, true⟩
theorem tf33 : TF Try.prog 33 ti33 := ⟨Try.sizeOf33, Try.isAgg33, Try.underlying33, Try.zeroValue33, by kernel_rfl, by kernel_rfl, by kernel_rfl, by kernel_rfl⟩
def ti34 : TI := ⟨1, false, (TypeDesc.interface #[("Error", 193)]), Value.nilIface, 16, false, true, true⟩
theorem tf34 : TF Try.prog 34 ti34 := ⟨Try.sizeOf34, Try.isAgg34, Try.underlying34, Try.zeroValue34, by kernel_rfl, by kernel_rfl, by kernel_rfl, by kernel_rfl⟩
def ti36 : TI := ⟨1, false, (TypeDesc.func #[3, 41] #[32, 34] false), Value.nilFunc, 8, false, false, false⟩
theorem tf36 : TF Try.prog 36 ti36 := ⟨Try.sizeOf36, Try.isAgg36, Try.underlying36, Try.zeroValue36, by kernel_rfl, by kernel_rfl, by kernel_rfl, by kernel_rfl⟩
def ti37 : TI := ⟨1, false, (TypeDesc.int IntKind.u32), (Value.int IntKind.u32 0), 4, false, false, true⟩
theorem tf37 : TF Try.prog 37 ti37 := ⟨Try.sizeOf37, Try.isAgg37, Try.underlying37, Try.zeroValue37, by kernel_rfl, by kernel_rfl, by kernel_rfl, by kernel_rfl⟩
def ti38 : TI := ⟨2, true, (TypeDesc.struct #[{ name := "Client", type := 37, offset := 0, embedded := false, tag := "", pkgPath := "", byteOffset := 0 }, { name := "Clock", type := 37, offset := 1, embedded := false, tag := "", pkgPath := "", byteOffset := 4 }]), (Value.agg #[Value.int IntKind.u32 0, Value.int IntKind.u32 0]), 8, false, false, true⟩
theorem tf38 : TF Try.prog 38 ti38 := ⟨Try.sizeOf38, Try.isAgg38, Try.underlying38, Try.zeroValue38, by kernel_rfl, by kernel_rfl, by kernel_rfl, by kernel_rfl⟩
def ti39 : TI := ⟨2, true, (TypeDesc.struct #[{ name := "Client", type := 37, offset := 0, embedded := false, tag := "", pkgPath := "", byteOffset := 0 }, { name := "Clock", type := 37, offset := 1, embedded := false, tag := "", pkgPath := "", byteOffset := 4 }]), (Value.agg #[Value.int IntKind.u32 0, Value.int IntKind.u32 0]), 8, false, false, true⟩
theorem tf39 : TF Try.prog 39 ti39 := ⟨Try.sizeOf39, Try.isAgg39, Try.underlying39, Try.zeroValue39, by kernel_rfl, by kernel_rfl, by kernel_rfl, by kernel_rfl⟩
def ti40 : TI := ⟨4, true, (TypeDesc.struct #[{ name := "Id", type := 39, offset := 0, embedded := false, tag := "", pkgPath := "", byteOffset := 0 }, { name := "Ch", type := 21, offset := 2, embedded := false, tag := "", pkgPath := "", byteOffset := 8 }, { name := "Gone", type := 4, offset := 3, embedded := false, tag := "", pkgPath := "", byteOffset := 12 }]), (Value.agg #[Value.int IntKind.u32 0, Value.int IntKind.u32 0, Value.int IntKind.i32 0, Value.bool false]), 16, false, false, true⟩
theorem tf40 : TF Try.prog 40 ti40 := ⟨Try.sizeOf40, Try.isAgg40, Try.underlying40, Try.zeroValue40, by kernel_rfl, by kernel_rfl, by kernel_rfl, by kernel_rfl⟩
def ti41 : TI := ⟨4, true, (TypeDesc.struct #[{ name := "Id", type := 39, offset := 0, embedded := false, tag := "", pkgPath := "", byteOffset := 0 }, { name := "Ch", type := 21, offset := 2, embedded := false, tag := "", pkgPath := "", byteOffset := 8 }, { name := "Gone", type := 4, offset := 3, embedded := false, tag := "", pkgPath := "", byteOffset := 12 }]), (Value.agg #[Value.int IntKind.u32 0, Value.int IntKind.u32 0, Value.int IntKind.i32 0, Value.bool false]), 16, false, false, true⟩
theorem tf41 : TF Try.prog 41 ti41 := ⟨Try.sizeOf41, Try.isAgg41, Try.underlying41, Try.zeroValue41, by kernel_rfl, by kernel_rfl, by kernel_rfl, by kernel_rfl⟩
def ti42 : TI := ⟨1, false, (TypeDesc.func #[] #[3] false), Value.nilFunc, 8, false, false, false⟩
theorem tf42 : TF Try.prog 42 ti42 := ⟨Try.sizeOf42, Try.isAgg42, Try.underlying42, Try.zeroValue42, by kernel_rfl, by kernel_rfl, by kernel_rfl, by kernel_rfl⟩
def ti43 : TI := ⟨1, false, (TypeDesc.func #[3, 3] #[3] false), Value.nilFunc, 8, false, false, false⟩
theorem tf43 : TF Try.prog 43 ti43 := ⟨Try.sizeOf43, Try.isAgg43, Try.underlying43, Try.zeroValue43, by kernel_rfl, by kernel_rfl, by kernel_rfl, by kernel_rfl⟩
def ti44 : TI := ⟨1, false, (TypeDesc.func #[39] #[32, 34] false), Value.nilFunc, 8, false, false, false⟩
theorem tf44 : TF Try.prog 44 ti44 := ⟨Try.sizeOf44, Try.isAgg44, Try.underlying44, Try.zeroValue44, by kernel_rfl, by kernel_rfl, by kernel_rfl, by kernel_rfl⟩
def ti46 : TI := ⟨1, false, (TypeDesc.func #[39] #[3, 4] false), Value.nilFunc, 8, false, false, false⟩
theorem tf46 : TF Try.prog 46 ti46 := ⟨Try.sizeOf46, Try.isAgg46, Try.underlying46, Try.zeroValue46, by kernel_rfl, by kernel_rfl, by kernel_rfl, by kernel_rfl⟩
def ti48 : TI := ⟨1, false, (TypeDesc.func #[3] #[41, 34] false), Value.nilFunc, 8, false, false, false⟩
theorem tf48 : TF Try.prog 48 ti48 := ⟨Try.sizeOf48, Try.isAgg48, Try.underlying48, Try.zeroValue48, by kernel_rfl, by kernel_rfl, by kernel_rfl, by kernel_rfl⟩
def ti50 : TI := ⟨1, false, (TypeDesc.func #[3] #[3, 34] false), Value.nilFunc, 8, false, false, false⟩
theorem tf50 : TF Try.prog 50 ti50 := ⟨Try.sizeOf50, Try.isAgg50, Try.underlying50, Try.zeroValue50, by kernel_rfl, by kernel_rfl, by kernel_rfl, by kernel_rfl⟩
def ti51 : TI := ⟨1, false, (TypeDesc.func #[28, 3] #[4] false), Value.nilFunc, 8, false, false, false⟩
theorem tf51 : TF Try.prog 51 ti51 := ⟨Try.sizeOf51, Try.isAgg51, Try.underlying51, Try.zeroValue51, by kernel_rfl, by kernel_rfl, by kernel_rfl, by kernel_rfl⟩
def ti52 : TI := ⟨1, false, (TypeDesc.slice 56), (Value.slice none 0 0), 24, false, false, false⟩
theorem tf52 : TF Try.prog 52 ti52 := ⟨Try.sizeOf52, Try.isAgg52, Try.underlying52, Try.zeroValue52, by kernel_rfl, by kernel_rfl, by kernel_rfl, by kernel_rfl⟩
def ti53 : TI := ⟨1, false, (TypeDesc.func #[28] #[32] false), Value.nilFunc, 8, false, false, false⟩
theorem tf53 : TF Try.prog 53 ti53 := ⟨Try.sizeOf53, Try.isAgg53, Try.underlying53, Try.zeroValue53, by kernel_rfl, by kernel_rfl, by kernel_rfl, by kernel_rfl⟩
def ti54 : TI := ⟨1, false, (TypeDesc.func #[32, 28, 39] #[3] false), Value.nilFunc, 8, false, false, false⟩
theorem tf54 : TF Try.prog 54 ti54 := ⟨Try.sizeOf54, Try.isAgg54, Try.underlying54, Try.zeroValue54, by kernel_rfl, by kernel_rfl, by kernel_rfl, by kernel_rfl⟩
def ti55 : TI := ⟨6, true, (TypeDesc.struct #[{ name := "What", type := 3, offset := 0, embedded := false, tag := "", pkgPath := "", byteOffset := 0 }, { name := "At", type := 3, offset := 1, embedded := false, tag := "", pkgPath := "", byteOffset := 8 }, { name := "E", type := 41, offset := 2, embedded := false, tag := "", pkgPath := "", byteOffset := 16 }]), (Value.agg #[Value.int IntKind.i64 0, Value.int IntKind.i64 0, Value.int IntKind.u32 0, Value.int IntKind.u32 0, Value.int IntKind.i32 0, Value.bool false]), 32, false, false, true⟩
theorem tf55 : TF Try.prog 55 ti55 := ⟨Try.sizeOf55, Try.isAgg55, Try.underlying55, Try.zeroValue55, by kernel_rfl, by kernel_rfl, by kernel_rfl, by kernel_rfl⟩
def ti56 : TI := ⟨6, true, (TypeDesc.struct #[{ name := "What", type := 3, offset := 0, embedded := false, tag := "", pkgPath := "", byteOffset := 0 }, { name := "At", type := 3, offset := 1, embedded := false, tag := "", pkgPath := "", byteOffset := 8 }, { name := "E", type := 41, offset := 2, embedded := false, tag := "", pkgPath := "", byteOffset := 16 }]), (Value.agg #[Value.int IntKind.i64 0, Value.int IntKind.i64 0, Value.int IntKind.u32 0, Value.int IntKind.u32 0, Value.int IntKind.i32 0, Value.bool false]), 32, false, false, true⟩
theorem tf56 : TF Try.prog 56 ti56 := ⟨Try.sizeOf56, Try.isAgg56, Try.underlying56, Try.zeroValue56, by kernel_rfl, by kernel_rfl, by kernel_rfl, by kernel_rfl⟩
def ti57 : TI := ⟨1, false, (TypeDesc.func #[28, 39] #[3] false), Value.nilFunc, 8, false, false, false⟩
theorem tf57 : TF Try.prog 57 ti57 := ⟨Try.sizeOf57, Try.isAgg57, Try.underlying57, Try.zeroValue57, by kernel_rfl, by kernel_rfl, by kernel_rfl, by kernel_rfl⟩
def ti58 : TI := ⟨1, false, (TypeDesc.func #[34] #[3] false), Value.nilFunc, 8, false, false, false⟩
theorem tf58 : TF Try.prog 58 ti58 := ⟨Try.sizeOf58, Try.isAgg58, Try.underlying58, Try.zeroValue58, by kernel_rfl, by kernel_rfl, by kernel_rfl, by kernel_rfl⟩
def ti59 : TI := ⟨1, false, (TypeDesc.func #[28, 52] #[4] false), Value.nilFunc, 8, false, false, false⟩
theorem tf59 : TF Try.prog 59 ti59 := ⟨Try.sizeOf59, Try.isAgg59, Try.underlying59, Try.zeroValue59, by kernel_rfl, by kernel_rfl, by kernel_rfl, by kernel_rfl⟩
def ti60 : TI := ⟨1, false, (TypeDesc.slice 66), (Value.slice none 0 0), 24, false, false, false⟩
theorem tf60 : TF Try.prog 60 ti60 := ⟨Try.sizeOf60, Try.isAgg60, Try.underlying60, Try.zeroValue60, by kernel_rfl, by kernel_rfl, by kernel_rfl, by kernel_rfl⟩
def ti61 : TI := ⟨1, false, (TypeDesc.slice 3), (Value.slice none 0 0), 24, false, false, false⟩
theorem tf61 : TF Try.prog 61 ti61 := ⟨Try.sizeOf61, Try.isAgg61, Try.underlying61, Try.zeroValue61, by kernel_rfl, by kernel_rfl, by kernel_rfl, by kernel_rfl⟩
def ti62 : TI := ⟨1, false, (TypeDesc.func #[60] #[60] false), Value.nilFunc, 8, false, false, false⟩
theorem tf62 : TF Try.prog 62 ti62 := ⟨Try.sizeOf62, Try.isAgg62, Try.underlying62, Try.zeroValue62, by kernel_rfl, by kernel_rfl, by kernel_rfl, by kernel_rfl⟩
def ti63 : TI := ⟨1, false, (TypeDesc.slice 39), (Value.slice none 0 0), 24, false, false, false⟩
theorem tf63 : TF Try.prog 63 ti63 := ⟨Try.sizeOf63, Try.isAgg63, Try.underlying63, Try.zeroValue63, by kernel_rfl, by kernel_rfl, by kernel_rfl, by kernel_rfl⟩
def ti64 : TI := ⟨1, false, (TypeDesc.func #[60] #[63] false), Value.nilFunc, 8, false, false, false⟩
theorem tf64 : TF Try.prog 64 ti64 := ⟨Try.sizeOf64, Try.isAgg64, Try.underlying64, Try.zeroValue64, by kernel_rfl, by kernel_rfl, by kernel_rfl, by kernel_rfl⟩
def ti65 : TI := ⟨7, true, (TypeDesc.struct #[{ name := "Id", type := 39, offset := 0, embedded := false, tag := "", pkgPath := "", byteOffset := 0 }, { name := "Left", type := 39, offset := 2, embedded := false, tag := "", pkgPath := "", byteOffset := 8 }, { name := "Right", type := 39, offset := 4, embedded := false, tag := "", pkgPath := "", byteOffset := 16 }, { name := "Ch", type := 21, offset := 6, embedded := false, tag := "", pkgPath := "", byteOffset := 24 }]), (Value.agg #[Value.int IntKind.u32 0, Value.int IntKind.u32 0, Value.int IntKind.u32 0, Value.int IntKind.u32 0, Value.int IntKind.u32 0, Value.int IntKind.u32 0, Value.int IntKind.i32 0]), 28, false, false, true⟩
theorem tf65 : TF Try.prog 65 ti65 := ⟨Try.sizeOf65, Try.isAgg65, Try.underlying65, Try.zeroValue65, by kernel_rfl, by kernel_rfl, by kernel_rfl, by kernel_rfl⟩
def ti66 : TI := ⟨7, true, (TypeDesc.struct #[{ name := "Id", type := 39, offset := 0, embedded := false, tag := "", pkgPath := "", byteOffset := 0 }, { name := "Left", type := 39, offset := 2, embedded := false, tag := "", pkgPath := "", byteOffset := 8 }, { name := "Right", type := 39, offset := 4, embedded := false, tag := "", pkgPath := "", byteOffset := 16 }, { name := "Ch", type := 21, offset := 6, embedded := false, tag := "", pkgPath := "", byteOffset := 24 }]), (Value.agg #[Value.int IntKind.u32 0, Value.int IntKind.u32 0, Value.int IntKind.u32 0, Value.int IntKind.u32 0, Value.int IntKind.u32 0, Value.int IntKind.u32 0, Value.int IntKind.i32 0]), 28, false, false, true⟩
theorem tf66 : TF Try.prog 66 ti66 := ⟨Try.sizeOf66, Try.isAgg66, Try.underlying66, Try.zeroValue66, by kernel_rfl, by kernel_rfl, by kernel_rfl, by kernel_rfl⟩
def ti67 : TI := ⟨1, false, (TypeDesc.func #[60] #[4] false), Value.nilFunc, 8, false, false, false⟩
theorem tf67 : TF Try.prog 67 ti67 := ⟨Try.sizeOf67, Try.isAgg67, Try.underlying67, Try.zeroValue67, by kernel_rfl, by kernel_rfl, by kernel_rfl, by kernel_rfl⟩
def ti68 : TI := ⟨1, false, (TypeDesc.func #[63, 63] #[4] false), Value.nilFunc, 8, false, false, false⟩
theorem tf68 : TF Try.prog 68 ti68 := ⟨Try.sizeOf68, Try.isAgg68, Try.underlying68, Try.zeroValue68, by kernel_rfl, by kernel_rfl, by kernel_rfl, by kernel_rfl⟩
def ti69 : TI := ⟨1, false, (TypeDesc.func #[60, 61, 3] #[4] false), Value.nilFunc, 8, false, false, false⟩
theorem tf69 : TF Try.prog 69 ti69 := ⟨Try.sizeOf69, Try.isAgg69, Try.underlying69, Try.zeroValue69, by kernel_rfl, by kernel_rfl, by kernel_rfl, by kernel_rfl⟩
def ti70 : TI := ⟨1, false, (TypeDesc.func #[60, 3, 39] #[4] false), Value.nilFunc, 8, false, false, false⟩
theorem tf70 : TF Try.prog 70 ti70 := ⟨Try.sizeOf70, Try.isAgg70, Try.underlying70, Try.zeroValue70, by kernel_rfl, by kernel_rfl, by kernel_rfl, by kernel_rfl⟩
def ti71 : TI := ⟨3, true, (TypeDesc.struct #[{ name := "On", type := 39, offset := 0, embedded := false, tag := "", pkgPath := "", byteOffset := 0 }, { name := "Right", type := 4, offset := 2, embedded := false, tag := "", pkgPath := "", byteOffset := 8 }]), (Value.agg #[Value.int IntKind.u32 0, Value.int IntKind.u32 0, Value.bool false]), 12, false, false, true⟩
theorem tf71 : TF Try.prog 71 ti71 := ⟨Try.sizeOf71, Try.isAgg71, Try.underlying71, Try.zeroValue71, by kernel_rfl, by kernel_rfl, by kernel_rfl, by kernel_rfl⟩
def ti72 : TI := ⟨3, true, (TypeDesc.struct #[{ name := "On", type := 39, offset := 0, embedded := false, tag := "", pkgPath := "", byteOffset := 0 }, { name := "Right", type := 4, offset := 2, embedded := false, tag := "", pkgPath := "", byteOffset := 8 }]), (Value.agg #[Value.int IntKind.u32 0, Value.int IntKind.u32 0, Value.bool false]), 12, false, false, true⟩
theorem tf72 : TF Try.prog 72 ti72 := ⟨Try.sizeOf72, Try.isAgg72, Try.underlying72, Try.zeroValue72, by kernel_rfl, by kernel_rfl, by kernel_rfl, by kernel_rfl⟩
def ti73 : TI := ⟨1, false, (TypeDesc.func #[60, 66] #[72] false), Value.nilFunc, 8, false, false, false⟩
theorem tf73 : TF Try.prog 73 ti73 := ⟨Try.sizeOf73, Try.isAgg73, Try.underlying73, Try.zeroValue73, by kernel_rfl, by kernel_rfl, by kernel_rfl, by kernel_rfl⟩
def ti74 : TI := ⟨3, true, (TypeDesc.struct #[{ name := "On", type := 39, offset := 0, embedded := false, tag := "", pkgPath := "", byteOffset := 0 }, { name := "Right", type := 4, offset := 2, embedded := false, tag := "", pkgPath := "", byteOffset := 8 }]), (Value.agg #[Value.int IntKind.u32 0, Value.int IntKind.u32 0, Value.bool false]), 12, false, false, true⟩
theorem tf74 : TF Try.prog 74 ti74 := ⟨Try.sizeOf74, Try.isAgg74, Try.underlying74, Try.zeroValue74, by kernel_rfl, by kernel_rfl, by kernel_rfl, by kernel_rfl⟩
def ti75 : TI := ⟨1, false, (TypeDesc.func #[60, 66] #[74] false), Value.nilFunc, 8, false, false, false⟩
theorem tf75 : TF Try.prog 75 ti75 := ⟨Try.sizeOf75, Try.isAgg75, Try.underlying75, Try.zeroValue75, by kernel_rfl, by kernel_rfl, by kernel_rfl, by kernel_rfl⟩
def ti76 : TI := ⟨1, false, (TypeDesc.func #[60, 66] #[4] false), Value.nilFunc, 8, false, false, false⟩
theorem tf76 : TF Try.prog 76 ti76 := ⟨Try.sizeOf76, Try.isAgg76, Try.underlying76, Try.zeroValue76, by kernel_rfl, by kernel_rfl, by kernel_rfl, by kernel_rfl⟩
def ti77 : TI := ⟨1, false, (TypeDesc.slice 87), (Value.slice none 0 0), 24, false, false, false⟩
theorem tf77 : TF Try.prog 77 ti77 := ⟨Try.sizeOf77, Try.isAgg77, Try.underlying77, Try.zeroValue77, by kernel_rfl, by kernel_rfl, by kernel_rfl, by kernel_rfl⟩
def ti78 : TI := ⟨1, false, (TypeDesc.func #[77] #[77] false), Value.nilFunc, 8, false, false, false⟩
theorem tf78 : TF Try.prog 78 ti78 := ⟨Try.sizeOf78, Try.isAgg78, Try.underlying78, Try.zeroValue78, by kernel_rfl, by kernel_rfl, by kernel_rfl, by kernel_rfl⟩
def ti79 : TI := ⟨1, false, (TypeDesc.func #[77, 77] #[4] false), Value.nilFunc, 8, false, false, false⟩
theorem tf79 : TF Try.prog 79 ti79 := ⟨Try.sizeOf79, Try.isAgg79, Try.underlying79, Try.zeroValue79, by kernel_rfl, by kernel_rfl, by kernel_rfl, by kernel_rfl⟩
def ti80 : TI := ⟨1, false, (TypeDesc.func #[77, 77] #[77] false), Value.nilFunc, 8, false, false, false⟩
theorem tf80 : TF Try.prog 80 ti80 := ⟨Try.sizeOf80, Try.isAgg80, Try.underlying80, Try.zeroValue80, by kernel_rfl, by kernel_rfl, by kernel_rfl, by kernel_rfl⟩
def ti81 : TI := ⟨1, false, (TypeDesc.func #[77] #[4] false), Value.nilFunc, 8, false, false, false⟩
theorem tf81 : TF Try.prog 81 ti81 := ⟨Try.sizeOf81, Try.isAgg81, Try.underlying81, Try.zeroValue81, by kernel_rfl, by kernel_rfl, by kernel_rfl, by kernel_rfl⟩
def ti82 : TI := ⟨1, false, (TypeDesc.func #[77, 39] #[4] false), Value.nilFunc, 8, false, false, false⟩
theorem tf82 : TF Try.prog 82 ti82 := ⟨Try.sizeOf82, Try.isAgg82, Try.underlying82, Try.zeroValue82, by kernel_rfl, by kernel_rfl, by kernel_rfl, by kernel_rfl⟩
def ti83 : TI := ⟨1, false, (TypeDesc.int IntKind.u64), (Value.int IntKind.u64 0), 8, false, false, true⟩
theorem tf83 : TF Try.prog 83 ti83 := ⟨Try.sizeOf83, Try.isAgg83, Try.underlying83, Try.zeroValue83, by kernel_rfl, by kernel_rfl, by kernel_rfl, by kernel_rfl⟩
def ti84 : TI := ⟨1, false, (TypeDesc.func #[77] #[83] false), Value.nilFunc, 8, false, false, false⟩
theorem tf84 : TF Try.prog 84 ti84 := ⟨Try.sizeOf84, Try.isAgg84, Try.underlying84, Try.zeroValue84, by kernel_rfl, by kernel_rfl, by kernel_rfl, by kernel_rfl⟩
def ti85 : TI := ⟨1, false, (TypeDesc.func #[77, 77, 39] #[4] false), Value.nilFunc, 8, false, false, false⟩
theorem tf85 : TF Try.prog 85 ti85 := ⟨Try.sizeOf85, Try.isAgg85, Try.underlying85, Try.zeroValue85, by kernel_rfl, by kernel_rfl, by kernel_rfl, by kernel_rfl⟩
def ti86 : TI := ⟨3, true, (TypeDesc.struct #[{ name := "Client", type := 37, offset := 0, embedded := false, tag := "", pkgPath := "", byteOffset := 0 }, { name := "From", type := 37, offset := 1, embedded := false, tag := "", pkgPath := "", byteOffset := 4 }, { name := "To", type := 37, offset := 2, embedded := false, tag := "", pkgPath := "", byteOffset := 8 }]), (Value.agg #[Value.int IntKind.u32 0, Value.int IntKind.u32 0, Value.int IntKind.u32 0]), 12, false, false, true⟩
theorem tf86 : TF Try.prog 86 ti86 := ⟨Try.sizeOf86, Try.isAgg86, Try.underlying86, Try.zeroValue86, by kernel_rfl, by kernel_rfl, by kernel_rfl, by kernel_rfl⟩
def ti87 : TI := ⟨3, true, (TypeDesc.struct #[{ name := "Client", type := 37, offset := 0, embedded := false, tag := "", pkgPath := "", byteOffset := 0 }, { name := "From", type := 37, offset := 1, embedded := false, tag := "", pkgPath := "", byteOffset := 4 }, { name := "To", type := 37, offset := 2, embedded := false, tag := "", pkgPath := "", byteOffset := 8 }]), (Value.agg #[Value.int IntKind.u32 0, Value.int IntKind.u32 0, Value.int IntKind.u32 0]), 12, false, false, true⟩
theorem tf87 : TF Try.prog 87 ti87 := ⟨Try.sizeOf87, Try.isAgg87, Try.underlying87, Try.zeroValue87, by kernel_rfl, by kernel_rfl, by kernel_rfl, by kernel_rfl⟩
def ti88 : TI := ⟨1, false, (TypeDesc.func #[22, 37, 37] #[22] false), Value.nilFunc, 8, false, false, false⟩
theorem tf88 : TF Try.prog 88 ti88 := ⟨Try.sizeOf88, Try.isAgg88, Try.underlying88, Try.zeroValue88, by kernel_rfl, by kernel_rfl, by kernel_rfl, by kernel_rfl⟩
def ti89 : TI := ⟨2, true, (TypeDesc.struct #[{ name := "Client", type := 37, offset := 0, embedded := false, tag := "", pkgPath := "", byteOffset := 0 }, { name := "Next", type := 37, offset := 1, embedded := false, tag := "", pkgPath := "", byteOffset := 4 }]), (Value.agg #[Value.int IntKind.u32 0, Value.int IntKind.u32 0]), 8, false, false, true⟩
theorem tf89 : TF Try.prog 89 ti89 := ⟨Try.sizeOf89, Try.isAgg89, Try.underlying89, Try.zeroValue89, by kernel_rfl, by kernel_rfl, by kernel_rfl, by kernel_rfl⟩
def ti90 : TI := ⟨2, true, (TypeDesc.struct #[{ name := "Client", type := 37, offset := 0, embedded := false, tag := "", pkgPath := "", byteOffset := 0 }, { name := "Next", type := 37, offset := 1, embedded := false, tag := "", pkgPath := "", byteOffset := 4 }]), (Value.agg #[Value.int IntKind.u32 0, Value.int IntKind.u32 0]), 8, false, false, true⟩
theorem tf90 : TF Try.prog 90 ti90 := ⟨Try.sizeOf90, Try.isAgg90, Try.underlying90, Try.zeroValue90, by kernel_rfl, by kernel_rfl, by kernel_rfl, by kernel_rfl⟩
def ti91 : TI := ⟨1, false, (TypeDesc.func #[22, 37] #[37] false), Value.nilFunc, 8, false, false, false⟩
theorem tf91 : TF Try.prog 91 ti91 := ⟨Try.sizeOf91, Try.isAgg91, Try.underlying91, Try.zeroValue91, by kernel_rfl, by kernel_rfl, by kernel_rfl, by kernel_rfl⟩
def ti92 : TI := ⟨1, false, (TypeDesc.func #[22] #[22] false), Value.nilFunc, 8, false, false, false⟩
theorem tf92 : TF Try.prog 92 ti92 := ⟨Try.sizeOf92, Try.isAgg92, Try.underlying92, Try.zeroValue92, by kernel_rfl, by kernel_rfl, by kernel_rfl, by kernel_rfl⟩
def ti93 : TI := ⟨1, false, (TypeDesc.func #[22, 94] #[4] false), Value.nilFunc, 8, false, false, false⟩
theorem tf93 : TF Try.prog 93 ti93 := ⟨Try.sizeOf93, Try.isAgg93, Try.underlying93, Try.zeroValue93, by kernel_rfl, by kernel_rfl, by kernel_rfl, by kernel_rfl⟩
def ti94 : TI := ⟨1, false, (TypeDesc.func #[90] #[4] false), Value.nilFunc, 8, false, false, false⟩
theorem tf94 : TF Try.prog 94 ti94 := ⟨Try.sizeOf94, Try.isAgg94, Try.underlying94, Try.zeroValue94, by kernel_rfl, by kernel_rfl, by kernel_rfl, by kernel_rfl⟩
def ti95 : TI := ⟨1, false, (TypeDesc.int IntKind.i64), (Value.int IntKind.i64 0), 8, false, false, true⟩
theorem tf95 : TF Try.prog 95 ti95 := ⟨Try.sizeOf95, Try.isAgg95, Try.underlying95, Try.zeroValue95, by kernel_rfl, by kernel_rfl, by kernel_rfl, by kernel_rfl⟩
def ti96 : TI := ⟨2, true, (TypeDesc.struct #[{ name := "l", type := 28, offset := 0, embedded := false, tag := "", pkgPath := "surcingle/index", byteOffset := 0 }, { name := "shown", type := 3, offset := 1, embedded := false, tag := "", pkgPath := "surcingle/index", byteOffset := 24 }]), (Value.agg #[Value.slice none 0 0, Value.int IntKind.i64 0]), 32, false, false, false⟩
theorem tf96 : TF Try.prog 96 ti96 := ⟨Try.sizeOf96, Try.isAgg96, Try.underlying96, Try.zeroValue96, by kernel_rfl, by kernel_rfl, by kernel_rfl, by kernel_rfl⟩
def ti97 : TI := ⟨2, true, (TypeDesc.struct #[{ name := "l", type := 28, offset := 0, embedded := false, tag := "", pkgPath := "surcingle/index", byteOffset := 0 }, { name := "shown", type := 3, offset := 1, embedded := false, tag := "", pkgPath := "surcingle/index", byteOffset := 24 }]), (Value.agg #[Value.slice none 0 0, Value.int IntKind.i64 0]), 32, false, false, false⟩
theorem tf97 : TF Try.prog 97 ti97 := ⟨Try.sizeOf97, Try.isAgg97, Try.underlying97, Try.zeroValue97, by kernel_rfl, by kernel_rfl, by kernel_rfl, by kernel_rfl⟩
def ti98 : TI := ⟨1, false, (TypeDesc.func #[28, 3, 28] #[28] true), Value.nilFunc, 8, false, false, false⟩
theorem tf98 : TF Try.prog 98 ti98 := ⟨Try.sizeOf98, Try.isAgg98, Try.underlying98, Try.zeroValue98, by kernel_rfl, by kernel_rfl, by kernel_rfl, by kernel_rfl⟩
def ti99 : TI := ⟨1, false, (TypeDesc.func #[3, 30] #[32] true), Value.nilFunc, 8, false, false, false⟩
theorem tf99 : TF Try.prog 99 ti99 := ⟨Try.sizeOf99, Try.isAgg99, Try.underlying99, Try.zeroValue99, by kernel_rfl, by kernel_rfl, by kernel_rfl, by kernel_rfl⟩
def ti100 : TI := ⟨1, false, (TypeDesc.func #[28] #[97] false), Value.nilFunc, 8, false, false, false⟩
theorem tf100 : TF Try.prog 100 ti100 := ⟨Try.sizeOf100, Try.isAgg100, Try.underlying100, Try.zeroValue100, by kernel_rfl, by kernel_rfl, by kernel_rfl, by kernel_rfl⟩
def ti102 : TI := ⟨1, false, (TypeDesc.func #[39] #[3, 3, 4] false), Value.nilFunc, 8, false, false, false⟩
theorem tf102 : TF Try.prog 102 ti102 := ⟨Try.sizeOf102, Try.isAgg102, Try.underlying102, Try.zeroValue102, by kernel_rfl, by kernel_rfl, by kernel_rfl, by kernel_rfl⟩
def ti103 : TI := ⟨1, false, (TypeDesc.func #[144] #[] false), Value.nilFunc, 8, false, false, false⟩
theorem tf103 : TF Try.prog 103 ti103 := ⟨Try.sizeOf103, Try.isAgg103, Try.underlying103, Try.zeroValue103, by kernel_rfl, by kernel_rfl, by kernel_rfl, by kernel_rfl⟩
def ti104 : TI := ⟨1, false, (TypeDesc.func #[144] #[] false), Value.nilFunc, 8, false, false, false⟩
theorem tf104 : TF Try.prog 104 ti104 := ⟨Try.sizeOf104, Try.isAgg104, Try.underlying104, Try.zeroValue104, by kernel_rfl, by kernel_rfl, by kernel_rfl, by kernel_rfl⟩
def ti105 : TI := ⟨1, false, (TypeDesc.func #[28, 3] #[104] false), Value.nilFunc, 8, false, false, false⟩
theorem tf105 : TF Try.prog 105 ti105 := ⟨Try.sizeOf105, Try.isAgg105, Try.underlying105, Try.zeroValue105, by kernel_rfl, by kernel_rfl, by kernel_rfl, by kernel_rfl⟩
def ti106 : TI := ⟨1, false, (TypeDesc.func #[30] #[32] false), Value.nilFunc, 8, false, false, false⟩
theorem tf106 : TF Try.prog 106 ti106 := ⟨Try.sizeOf106, Try.isAgg106, Try.underlying106, Try.zeroValue106, by kernel_rfl, by kernel_rfl, by kernel_rfl, by kernel_rfl⟩
def ti107 : TI := ⟨1, false, (TypeDesc.func #[28] #[61] false), Value.nilFunc, 8, false, false, false⟩
theorem tf107 : TF Try.prog 107 ti107 := ⟨Try.sizeOf107, Try.isAgg107, Try.underlying107, Try.zeroValue107, by kernel_rfl, by kernel_rfl, by kernel_rfl, by kernel_rfl⟩
def ti108 : TI := ⟨1, false, (TypeDesc.func #[28, 28] #[4] false), Value.nilFunc, 8, false, false, false⟩
theorem tf108 : TF Try.prog 108 ti108 := ⟨Try.sizeOf108, Try.isAgg108, Try.underlying108, Try.zeroValue108, by kernel_rfl, by kernel_rfl, by kernel_rfl, by kernel_rfl⟩
def ti109 : TI := ⟨1, false, (TypeDesc.func #[] #[28] false), Value.nilFunc, 8, false, false, false⟩
theorem tf109 : TF Try.prog 109 ti109 := ⟨Try.sizeOf109, Try.isAgg109, Try.underlying109, Try.zeroValue109, by kernel_rfl, by kernel_rfl, by kernel_rfl, by kernel_rfl⟩
def ti110 : TI := ⟨1, false, (TypeDesc.func #[21] #[4] false), Value.nilFunc, 8, false, false, false⟩
theorem tf110 : TF Try.prog 110 ti110 := ⟨Try.sizeOf110, Try.isAgg110, Try.underlying110, Try.zeroValue110, by kernel_rfl, by kernel_rfl, by kernel_rfl, by kernel_rfl⟩
def ti111 : TI := ⟨1, false, (TypeDesc.map 39 72), (Value.map none), 8, false, false, false⟩
theorem tf111 : TF Try.prog 111 ti111 := ⟨Try.sizeOf111, Try.isAgg111, Try.underlying111, Try.zeroValue111, by kernel_rfl, by kernel_rfl, by kernel_rfl, by kernel_rfl⟩
def ti112 : TI := ⟨1, false, (TypeDesc.func #[60] #[111] false), Value.nilFunc, 8, false, false, false⟩
theorem tf112 : TF Try.prog 112 ti112 := ⟨Try.sizeOf112, Try.isAgg112, Try.underlying112, Try.zeroValue112, by kernel_rfl, by kernel_rfl, by kernel_rfl, by kernel_rfl⟩
def ti113 : TI := ⟨1, false, (TypeDesc.map 72 63), (Value.map none), 8, false, false, false⟩
theorem tf113 : TF Try.prog 113 ti113 := ⟨Try.sizeOf113, Try.isAgg113, Try.underlying113, Try.zeroValue113, by kernel_rfl, by kernel_rfl, by kernel_rfl, by kernel_rfl⟩
def ti114 : TI := ⟨1, false, (TypeDesc.func #[63, 115] #[] false), Value.nilFunc, 8, false, false, false⟩
theorem tf114 : TF Try.prog 114 ti114 := ⟨Try.sizeOf114, Try.isAgg114, Try.underlying114, Try.zeroValue114, by kernel_rfl, by kernel_rfl, by kernel_rfl, by kernel_rfl⟩
def ti115 : TI := ⟨1, false, (TypeDesc.func #[39, 39] #[3] false), Value.nilFunc, 8, false, false, false⟩
theorem tf115 : TF Try.prog 115 ti115 := ⟨Try.sizeOf115, Try.isAgg115, Try.underlying115, Try.zeroValue115, by kernel_rfl, by kernel_rfl, by kernel_rfl, by kernel_rfl⟩
def ti116 : TI := ⟨1, false, (TypeDesc.func #[39] #[] false), Value.nilFunc, 8, false, false, false⟩
theorem tf116 : TF Try.prog 116 ti116 := ⟨Try.sizeOf116, Try.isAgg116, Try.underlying116, Try.zeroValue116, by kernel_rfl, by kernel_rfl, by kernel_rfl, by kernel_rfl⟩
def ti117 : TI := ⟨1, false, (TypeDesc.func #[72] #[] false), Value.nilFunc, 8, false, false, false⟩
theorem tf117 : TF Try.prog 117 ti117 := ⟨Try.sizeOf117, Try.isAgg117, Try.underlying117, Try.zeroValue117, by kernel_rfl, by kernel_rfl, by kernel_rfl, by kernel_rfl⟩
def ti118 : TI := ⟨1, false, (TypeDesc.map 39 4), (Value.map none), 8, false, false, false⟩
theorem tf118 : TF Try.prog 118 ti118 := ⟨Try.sizeOf118, Try.isAgg118, Try.underlying118, Try.zeroValue118, by kernel_rfl, by kernel_rfl, by kernel_rfl, by kernel_rfl⟩
def ti119 : TI := ⟨1, false, (TypeDesc.func #[39] #[4] false), Value.nilFunc, 8, false, false, false⟩
theorem tf119 : TF Try.prog 119 ti119 := ⟨Try.sizeOf119, Try.isAgg119, Try.underlying119, Try.zeroValue119, by kernel_rfl, by kernel_rfl, by kernel_rfl, by kernel_rfl⟩
def ti120 : TI := ⟨1, false, (TypeDesc.func #[60, 39] #[3] false), Value.nilFunc, 8, false, false, false⟩
theorem tf120 : TF Try.prog 120 ti120 := ⟨Try.sizeOf120, Try.isAgg120, Try.underlying120, Try.zeroValue120, by kernel_rfl, by kernel_rfl, by kernel_rfl, by kernel_rfl⟩
def ti121 : TI := ⟨1, false, (TypeDesc.func #[60, 122, 74] #[63] false), Value.nilFunc, 8, false, false, false⟩
theorem tf121 : TF Try.prog 121 ti121 := ⟨Try.sizeOf121, Try.isAgg121, Try.underlying121, Try.zeroValue121, by kernel_rfl, by kernel_rfl, by kernel_rfl, by kernel_rfl⟩
def ti122 : TI := ⟨1, false, (TypeDesc.slice 74), (Value.slice none 0 0), 24, false, false, false⟩
theorem tf122 : TF Try.prog 122 ti122 := ⟨Try.sizeOf122, Try.isAgg122, Try.underlying122, Try.zeroValue122, by kernel_rfl, by kernel_rfl, by kernel_rfl, by kernel_rfl⟩
def ti123 : TI := ⟨1, false, (TypeDesc.func #[60] #[122] false), Value.nilFunc, 8, false, false, false⟩
theorem tf123 : TF Try.prog 123 ti123 := ⟨Try.sizeOf123, Try.isAgg123, Try.underlying123, Try.zeroValue123, by kernel_rfl, by kernel_rfl, by kernel_rfl, by kernel_rfl⟩
def ti124 : TI := ⟨1, false, (TypeDesc.func #[111, 66] #[72] false), Value.nilFunc, 8, false, false, false⟩
theorem tf124 : TF Try.prog 124 ti124 := ⟨Try.sizeOf124, Try.isAgg124, Try.underlying124, Try.zeroValue124, by kernel_rfl, by kernel_rfl, by kernel_rfl, by kernel_rfl⟩
def ti125 : TI := ⟨1, false, (TypeDesc.func #[60, 122, 66] #[74] false), Value.nilFunc, 8, false, false, false⟩
theorem tf125 : TF Try.prog 125 ti125 := ⟨Try.sizeOf125, Try.isAgg125, Try.underlying125, Try.zeroValue125, by kernel_rfl, by kernel_rfl, by kernel_rfl, by kernel_rfl⟩
def ti126 : TI := ⟨1, false, (TypeDesc.func #[77, 87] #[77] false), Value.nilFunc, 8, false, false, false⟩
theorem tf126 : TF Try.prog 126 ti126 := ⟨Try.sizeOf126, Try.isAgg126, Try.underlying126, Try.zeroValue126, by kernel_rfl, by kernel_rfl, by kernel_rfl, by kernel_rfl⟩
def ti127 : TI := ⟨1, false, (TypeDesc.func #[77, 128] #[77] false), Value.nilFunc, 8, false, false, false⟩
theorem tf127 : TF Try.prog 127 ti127 := ⟨Try.sizeOf127, Try.isAgg127, Try.underlying127, Try.zeroValue127, by kernel_rfl, by kernel_rfl, by kernel_rfl, by kernel_rfl⟩
def ti128 : TI := ⟨1, false, (TypeDesc.func #[87] #[4] false), Value.nilFunc, 8, false, false, false⟩
theorem tf128 : TF Try.prog 128 ti128 := ⟨Try.sizeOf128, Try.isAgg128, Try.underlying128, Try.zeroValue128, by kernel_rfl, by kernel_rfl, by kernel_rfl, by kernel_rfl⟩
def ti129 : TI := ⟨1, false, (TypeDesc.func #[77, 132] #[] false), Value.nilFunc, 8, false, false, false⟩
theorem tf129 : TF Try.prog 129 ti129 := ⟨Try.sizeOf129, Try.isAgg129, Try.underlying129, Try.zeroValue129, by kernel_rfl, by kernel_rfl, by kernel_rfl, by kernel_rfl⟩
def ti130 : TI := ⟨1, false, (TypeDesc.func #[61] #[3] true), Value.nilFunc, 8, false, false, false⟩
theorem tf130 : TF Try.prog 130 ti130 := ⟨Try.sizeOf130, Try.isAgg130, Try.underlying130, Try.zeroValue130, by kernel_rfl, by kernel_rfl, by kernel_rfl, by kernel_rfl⟩
def ti131 : TI := ⟨1, false, (TypeDesc.func #[37, 37] #[3] false), Value.nilFunc, 8, false, false, false⟩
theorem tf131 : TF Try.prog 131 ti131 := ⟨Try.sizeOf131, Try.isAgg131, Try.underlying131, Try.zeroValue131, by kernel_rfl, by kernel_rfl, by kernel_rfl, by kernel_rfl⟩
def ti132 : TI := ⟨1, false, (TypeDesc.func #[87, 87] #[3] false), Value.nilFunc, 8, false, false, false⟩
theorem tf132 : TF Try.prog 132 ti132 := ⟨Try.sizeOf132, Try.isAgg132, Try.underlying132, Try.zeroValue132, by kernel_rfl, by kernel_rfl, by kernel_rfl, by kernel_rfl⟩
def ti133 : TI := ⟨1, false, (TypeDesc.func #[154] #[77] true), Value.nilFunc, 8, false, false, false⟩
theorem tf133 : TF Try.prog 133 ti133 := ⟨Try.sizeOf133, Try.isAgg133, Try.underlying133, Try.zeroValue133, by kernel_rfl, by kernel_rfl, by kernel_rfl, by kernel_rfl⟩
def ti134 : TI := ⟨1, false, (TypeDesc.func #[77, 128] #[4] false), Value.nilFunc, 8, false, false, false⟩
theorem tf134 : TF Try.prog 134 ti134 := ⟨Try.sizeOf134, Try.isAgg134, Try.underlying134, Try.zeroValue134, by kernel_rfl, by kernel_rfl, by kernel_rfl, by kernel_rfl⟩
def ti135 : TI := ⟨1, false, (TypeDesc.func #[22, 37] #[3, 4] false), Value.nilFunc, 8, false, false, false⟩
theorem tf135 : TF Try.prog 135 ti135 := ⟨Try.sizeOf135, Try.isAgg135, Try.underlying135, Try.zeroValue135, by kernel_rfl, by kernel_rfl, by kernel_rfl, by kernel_rfl⟩
def ti136 : TI := ⟨1, false, (TypeDesc.func #[22, 3, 3] #[22] false), Value.nilFunc, 8, false, false, false⟩
theorem tf136 : TF Try.prog 136 ti136 := ⟨Try.sizeOf136, Try.isAgg136, Try.underlying136, Try.zeroValue136, by kernel_rfl, by kernel_rfl, by kernel_rfl, by kernel_rfl⟩
def ti137 : TI := ⟨1, false, (TypeDesc.func #[22, 3, 22] #[22] true), Value.nilFunc, 8, false, false, false⟩
theorem tf137 : TF Try.prog 137 ti137 := ⟨Try.sizeOf137, Try.isAgg137, Try.underlying137, Try.zeroValue137, by kernel_rfl, by kernel_rfl, by kernel_rfl, by kernel_rfl⟩
def ti138 : TI := ⟨1, false, (TypeDesc.func #[22, 94] #[3] false), Value.nilFunc, 8, false, false, false⟩
theorem tf138 : TF Try.prog 138 ti138 := ⟨Try.sizeOf138, Try.isAgg138, Try.underlying138, Try.zeroValue138, by kernel_rfl, by kernel_rfl, by kernel_rfl, by kernel_rfl⟩
def ti139 : TI := ⟨1, false, (TypeDesc.func #[28, 3] #[] false), Value.nilFunc, 8, false, false, false⟩
theorem tf139 : TF Try.prog 139 ti139 := ⟨Try.sizeOf139, Try.isAgg139, Try.underlying139, Try.zeroValue139, by kernel_rfl, by kernel_rfl, by kernel_rfl, by kernel_rfl⟩
def ti140 : TI := ⟨1, false, (TypeDesc.func #[30, 3, 3, 30] #[30] true), Value.nilFunc, 8, false, false, false⟩
theorem tf140 : TF Try.prog 140 ti140 := ⟨Try.sizeOf140, Try.isAgg140, Try.underlying140, Try.zeroValue140, by kernel_rfl, by kernel_rfl, by kernel_rfl, by kernel_rfl⟩
def ti141 : TI := ⟨1, false, (TypeDesc.func #[30] #[30] false), Value.nilFunc, 8, false, false, false⟩
theorem tf141 : TF Try.prog 141 ti141 := ⟨Try.sizeOf141, Try.isAgg141, Try.underlying141, Try.zeroValue141, by kernel_rfl, by kernel_rfl, by kernel_rfl, by kernel_rfl⟩
def ti142 : TI := ⟨1, false, (TypeDesc.func #[28, 143] #[3] false), Value.nilFunc, 8, false, false, false⟩
theorem tf142 : TF Try.prog 142 ti142 := ⟨Try.sizeOf142, Try.isAgg142, Try.underlying142, Try.zeroValue142, by kernel_rfl, by kernel_rfl, by kernel_rfl, by kernel_rfl⟩
def ti143 : TI := ⟨1, false, (TypeDesc.func #[41] #[4] false), Value.nilFunc, 8, false, false, false⟩
theorem tf143 : TF Try.prog 143 ti143 := ⟨Try.sizeOf143, Try.isAgg143, Try.underlying143, Try.zeroValue143, by kernel_rfl, by kernel_rfl, by kernel_rfl, by kernel_rfl⟩
def ti144 : TI := ⟨1, false, (TypeDesc.func #[28] #[4] false), Value.nilFunc, 8, false, false, false⟩
theorem tf144 : TF Try.prog 144 ti144 := ⟨Try.sizeOf144, Try.isAgg144, Try.underlying144, Try.zeroValue144, by kernel_rfl, by kernel_rfl, by kernel_rfl, by kernel_rfl⟩
def ti145 : TI := ⟨1, false, (TypeDesc.func #[63, 3, 3, 3, 115] #[] false), Value.nilFunc, 8, false, false, false⟩
theorem tf145 : TF Try.prog 145 ti145 := ⟨Try.sizeOf145, Try.isAgg145, Try.underlying145, Try.zeroValue145, by kernel_rfl, by kernel_rfl, by kernel_rfl, by kernel_rfl⟩
def ti146 : TI := ⟨1, false, (TypeDesc.func #[147] #[3] false), Value.nilFunc, 8, false, false, false⟩
theorem tf146 : TF Try.prog 146 ti146 := ⟨Try.sizeOf146, Try.isAgg146, Try.underlying146, Try.zeroValue146, by kernel_rfl, by kernel_rfl, by kernel_rfl, by kernel_rfl⟩
def ti147 : TI := ⟨1, false, (TypeDesc.int IntKind.u64), (Value.int IntKind.u64 0), 8, false, false, true⟩
theorem tf147 : TF Try.prog 147 ti147 := ⟨Try.sizeOf147, Try.isAgg147, Try.underlying147, Try.zeroValue147, by kernel_rfl, by kernel_rfl, by kernel_rfl, by kernel_rfl⟩
def ti148 : TI := ⟨1, false, (TypeDesc.slice 4), (Value.slice none 0 0), 24, false, false, false⟩
theorem tf148 : TF Try.prog 148 ti148 := ⟨Try.sizeOf148, Try.isAgg148, Try.underlying148, Try.zeroValue148, by kernel_rfl, by kernel_rfl, by kernel_rfl, by kernel_rfl⟩
def ti149 : TI := ⟨1, false, (TypeDesc.func #[39, 39] #[4] false), Value.nilFunc, 8, false, false, false⟩
theorem tf149 : TF Try.prog 149 ti149 := ⟨Try.sizeOf149, Try.isAgg149, Try.underlying149, Try.zeroValue149, by kernel_rfl, by kernel_rfl, by kernel_rfl, by kernel_rfl⟩
def ti150 : TI := ⟨1, false, (TypeDesc.func #[60, 122, 39, 39] #[4] false), Value.nilFunc, 8, false, false, false⟩
theorem tf150 : TF Try.prog 150 ti150 := ⟨Try.sizeOf150, Try.isAgg150, Try.underlying150, Try.zeroValue150, by kernel_rfl, by kernel_rfl, by kernel_rfl, by kernel_rfl⟩
def ti151 : TI := ⟨1, false, (TypeDesc.func #[77, 128] #[3] false), Value.nilFunc, 8, false, false, false⟩
theorem tf151 : TF Try.prog 151 ti151 := ⟨Try.sizeOf151, Try.isAgg151, Try.underlying151, Try.zeroValue151, by kernel_rfl, by kernel_rfl, by kernel_rfl, by kernel_rfl⟩
def ti152 : TI := ⟨1, false, (TypeDesc.func #[77, 3, 3, 3, 132] #[] false), Value.nilFunc, 8, false, false, false⟩
theorem tf152 : TF Try.prog 152 ti152 := ⟨Try.sizeOf152, Try.isAgg152, Try.underlying152, Try.zeroValue152, by kernel_rfl, by kernel_rfl, by kernel_rfl, by kernel_rfl⟩
def ti153 : TI := ⟨1, false, (TypeDesc.func #[37] #[4] false), Value.nilFunc, 8, false, false, false⟩
theorem tf153 : TF Try.prog 153 ti153 := ⟨Try.sizeOf153, Try.isAgg153, Try.underlying153, Try.zeroValue153, by kernel_rfl, by kernel_rfl, by kernel_rfl, by kernel_rfl⟩
def ti154 : TI := ⟨1, false, (TypeDesc.slice 77), (Value.slice none 0 0), 24, false, false, false⟩
theorem tf154 : TF Try.prog 154 ti154 := ⟨Try.sizeOf154, Try.isAgg154, Try.underlying154, Try.zeroValue154, by kernel_rfl, by kernel_rfl, by kernel_rfl, by kernel_rfl⟩
def ti155 : TI := ⟨1, false, (TypeDesc.func #[77, 3] #[77] false), Value.nilFunc, 8, false, false, false⟩
theorem tf155 : TF Try.prog 155 ti155 := ⟨Try.sizeOf155, Try.isAgg155, Try.underlying155, Try.zeroValue155, by kernel_rfl, by kernel_rfl, by kernel_rfl, by kernel_rfl⟩
def ti156 : TI := ⟨1, false, (TypeDesc.func #[22, 37, 157] #[3, 4] false), Value.nilFunc, 8, false, false, false⟩
theorem tf156 : TF Try.prog 156 ti156 := ⟨Try.sizeOf156, Try.isAgg156, Try.underlying156, Try.zeroValue156, by kernel_rfl, by kernel_rfl, by kernel_rfl, by kernel_rfl⟩
def ti157 : TI := ⟨1, false, (TypeDesc.func #[90, 37] #[3] false), Value.nilFunc, 8, false, false, false⟩
theorem tf157 : TF Try.prog 157 ti157 := ⟨Try.sizeOf157, Try.isAgg157, Try.underlying157, Try.zeroValue157, by kernel_rfl, by kernel_rfl, by kernel_rfl, by kernel_rfl⟩
def ti158 : TI := ⟨1, false, (TypeDesc.func #[22, 3] #[] false), Value.nilFunc, 8, false, false, false⟩
theorem tf158 : TF Try.prog 158 ti158 := ⟨Try.sizeOf158, Try.isAgg158, Try.underlying158, Try.zeroValue158, by kernel_rfl, by kernel_rfl, by kernel_rfl, by kernel_rfl⟩
def ti159 : TI := ⟨1, false, (TypeDesc.func #[30, 3, 30] #[30] true), Value.nilFunc, 8, false, false, false⟩
theorem tf159 : TF Try.prog 159 ti159 := ⟨Try.sizeOf159, Try.isAgg159, Try.underlying159, Try.zeroValue159, by kernel_rfl, by kernel_rfl, by kernel_rfl, by kernel_rfl⟩
def ti160 : TI := ⟨1, false, (TypeDesc.func #[30, 30] #[4] false), Value.nilFunc, 8, false, false, false⟩
theorem tf160 : TF Try.prog 160 ti160 := ⟨Try.sizeOf160, Try.isAgg160, Try.underlying160, Try.zeroValue160, by kernel_rfl, by kernel_rfl, by kernel_rfl, by kernel_rfl⟩
def ti161 : TI := ⟨1, false, (TypeDesc.func #[30, 3] #[] false), Value.nilFunc, 8, false, false, false⟩
theorem tf161 : TF Try.prog 161 ti161 := ⟨Try.sizeOf161, Try.isAgg161, Try.underlying161, Try.zeroValue161, by kernel_rfl, by kernel_rfl, by kernel_rfl, by kernel_rfl⟩
def ti162 : TI := ⟨1, false, (TypeDesc.func #[30, 30] #[3] false), Value.nilFunc, 8, false, false, false⟩
theorem tf162 : TF Try.prog 162 ti162 := ⟨Try.sizeOf162, Try.isAgg162, Try.underlying162, Try.zeroValue162, by kernel_rfl, by kernel_rfl, by kernel_rfl, by kernel_rfl⟩
def ti163 : TI := ⟨1, false, (TypeDesc.func #[63, 3, 3, 115] #[] false), Value.nilFunc, 8, false, false, false⟩
theorem tf163 : TF Try.prog 163 ti163 := ⟨Try.sizeOf163, Try.isAgg163, Try.underlying163, Try.zeroValue163, by kernel_rfl, by kernel_rfl, by kernel_rfl, by kernel_rfl⟩
def ti164 : TI := ⟨1, false, (TypeDesc.int IntKind.i64), (Value.int IntKind.i64 0), 8, false, false, true⟩
theorem tf164 : TF Try.prog 164 ti164 := ⟨Try.sizeOf164, Try.isAgg164, Try.underlying164, Try.zeroValue164, by kernel_rfl, by kernel_rfl, by kernel_rfl, by kernel_rfl⟩
def ti166 : TI := ⟨1, false, (TypeDesc.func #[63, 3, 3, 115] #[3, 164] false), Value.nilFunc, 8, false, false, false⟩
theorem tf166 : TF Try.prog 166 ti166 := ⟨Try.sizeOf166, Try.isAgg166, Try.underlying166, Try.zeroValue166, by kernel_rfl, by kernel_rfl, by kernel_rfl, by kernel_rfl⟩
def ti167 : TI := ⟨1, false, (TypeDesc.func #[63, 3, 3, 115] #[4] false), Value.nilFunc, 8, false, false, false⟩
theorem tf167 : TF Try.prog 167 ti167 := ⟨Try.sizeOf167, Try.isAgg167, Try.underlying167, Try.zeroValue167, by kernel_rfl, by kernel_rfl, by kernel_rfl, by kernel_rfl⟩
def ti168 : TI := ⟨1, false, (TypeDesc.func #[63, 3, 3, 3, 115] #[3] false), Value.nilFunc, 8, false, false, false⟩
theorem tf168 : TF Try.prog 168 ti168 := ⟨Try.sizeOf168, Try.isAgg168, Try.underlying168, Try.zeroValue168, by kernel_rfl, by kernel_rfl, by kernel_rfl, by kernel_rfl⟩
def ti169 : TI := ⟨1, false, (TypeDesc.func #[63, 3, 3, 3, 115] #[3, 4] false), Value.nilFunc, 8, false, false, false⟩
theorem tf169 : TF Try.prog 169 ti169 := ⟨Try.sizeOf169, Try.isAgg169, Try.underlying169, Try.zeroValue169, by kernel_rfl, by kernel_rfl, by kernel_rfl, by kernel_rfl⟩
def ti170 : TI := ⟨1, false, (TypeDesc.func #[37] #[3] false), Value.nilFunc, 8, false, false, false⟩
theorem tf170 : TF Try.prog 170 ti170 := ⟨Try.sizeOf170, Try.isAgg170, Try.underlying170, Try.zeroValue170, by kernel_rfl, by kernel_rfl, by kernel_rfl, by kernel_rfl⟩
def ti171 : TI := ⟨1, false, (TypeDesc.func #[83] #[3] false), Value.nilFunc, 8, false, false, false⟩
theorem tf171 : TF Try.prog 171 ti171 := ⟨Try.sizeOf171, Try.isAgg171, Try.underlying171, Try.zeroValue171, by kernel_rfl, by kernel_rfl, by kernel_rfl, by kernel_rfl⟩
def ti172 : TI := ⟨1, false, (TypeDesc.func #[77, 3, 3, 132] #[] false), Value.nilFunc, 8, false, false, false⟩
theorem tf172 : TF Try.prog 172 ti172 := ⟨Try.sizeOf172, Try.isAgg172, Try.underlying172, Try.zeroValue172, by kernel_rfl, by kernel_rfl, by kernel_rfl, by kernel_rfl⟩
def ti173 : TI := ⟨1, false, (TypeDesc.func #[77, 3, 3, 132] #[3, 164] false), Value.nilFunc, 8, false, false, false⟩
theorem tf173 : TF Try.prog 173 ti173 := ⟨Try.sizeOf173, Try.isAgg173, Try.underlying173, Try.zeroValue173, by kernel_rfl, by kernel_rfl, by kernel_rfl, by kernel_rfl⟩
def ti174 : TI := ⟨1, false, (TypeDesc.func #[77, 3, 3, 132] #[4] false), Value.nilFunc, 8, false, false, false⟩
theorem tf174 : TF Try.prog 174 ti174 := ⟨Try.sizeOf174, Try.isAgg174, Try.underlying174, Try.zeroValue174, by kernel_rfl, by kernel_rfl, by kernel_rfl, by kernel_rfl⟩
def ti175 : TI := ⟨1, false, (TypeDesc.func #[77, 3, 3, 3, 132] #[3] false), Value.nilFunc, 8, false, false, false⟩
theorem tf175 : TF Try.prog 175 ti175 := ⟨Try.sizeOf175, Try.isAgg175, Try.underlying175, Try.zeroValue175, by kernel_rfl, by kernel_rfl, by kernel_rfl, by kernel_rfl⟩
def ti176 : TI := ⟨1, false, (TypeDesc.func #[77, 3, 3, 3, 132] #[3, 4] false), Value.nilFunc, 8, false, false, false⟩
theorem tf176 : TF Try.prog 176 ti176 := ⟨Try.sizeOf176, Try.isAgg176, Try.underlying176, Try.zeroValue176, by kernel_rfl, by kernel_rfl, by kernel_rfl, by kernel_rfl⟩
def ti177 : TI := ⟨1, false, (TypeDesc.func #[28] #[] false), Value.nilFunc, 8, false, false, false⟩
theorem tf177 : TF Try.prog 177 ti177 := ⟨Try.sizeOf177, Try.isAgg177, Try.underlying177, Try.zeroValue177, by kernel_rfl, by kernel_rfl, by kernel_rfl, by kernel_rfl⟩
def ti178 : TI := ⟨1, false, (TypeDesc.pointer 97), (Value.pointer none), 8, false, false, true⟩
theorem tf178 : TF Try.prog 178 ti178 := ⟨Try.sizeOf178, Try.isAgg178, Try.underlying178, Try.zeroValue178, by kernel_rfl, by kernel_rfl, by kernel_rfl, by kernel_rfl⟩
def ti179 : TI := ⟨1, false, (TypeDesc.int IntKind.u64), (Value.int IntKind.u64 0), 8, false, false, true⟩
theorem tf179 : TF Try.prog 179 ti179 := ⟨Try.sizeOf179, Try.isAgg179, Try.underlying179, Try.zeroValue179, by kernel_rfl, by kernel_rfl, by kernel_rfl, by kernel_rfl⟩
def ti180 : TI := ⟨1, false, (TypeDesc.func #[3] #[147] false), Value.nilFunc, 8, false, false, false⟩
theorem tf180 : TF Try.prog 180 ti180 := ⟨Try.sizeOf180, Try.isAgg180, Try.underlying180, Try.zeroValue180, by kernel_rfl, by kernel_rfl, by kernel_rfl, by kernel_rfl⟩
def ti181 : TI := ⟨1, false, (TypeDesc.func #[] #[83] false), Value.nilFunc, 8, false, false, false⟩
theorem tf181 : TF Try.prog 181 ti181 := ⟨Try.sizeOf181, Try.isAgg181, Try.underlying181, Try.zeroValue181, by kernel_rfl, by kernel_rfl, by kernel_rfl, by kernel_rfl⟩
def ti182 : TI := ⟨1, false, (TypeDesc.func #[63, 3, 183, 115] #[3] false), Value.nilFunc, 8, false, false, false⟩
theorem tf182 : TF Try.prog 182 ti182 := ⟨Try.sizeOf182, Try.isAgg182, Try.underlying182, Try.zeroValue182, by kernel_rfl, by kernel_rfl, by kernel_rfl, by kernel_rfl⟩
def ti183 : TI := ⟨1, false, (TypeDesc.pointer 3), (Value.pointer none), 8, false, false, true⟩
theorem tf183 : TF Try.prog 183 ti183 := ⟨Try.sizeOf183, Try.isAgg183, Try.underlying183, Try.zeroValue183, by kernel_rfl, by kernel_rfl, by kernel_rfl, by kernel_rfl⟩
def ti184 : TI := ⟨1, false, (TypeDesc.func #[63, 3, 3, 3, 183, 115] #[3] false), Value.nilFunc, 8, false, false, false⟩
theorem tf184 : TF Try.prog 184 ti184 := ⟨Try.sizeOf184, Try.isAgg184, Try.underlying184, Try.zeroValue184, by kernel_rfl, by kernel_rfl, by kernel_rfl, by kernel_rfl⟩
def ti185 : TI := ⟨1, false, (TypeDesc.func #[77, 3, 183, 132] #[3] false), Value.nilFunc, 8, false, false, false⟩
theorem tf185 : TF Try.prog 185 ti185 := ⟨Try.sizeOf185, Try.isAgg185, Try.underlying185, Try.zeroValue185, by kernel_rfl, by kernel_rfl, by kernel_rfl, by kernel_rfl⟩
def ti186 : TI := ⟨1, false, (TypeDesc.func #[77, 3, 3, 3, 183, 132] #[3] false), Value.nilFunc, 8, false, false, false⟩
theorem tf186 : TF Try.prog 186 ti186 := ⟨Try.sizeOf186, Try.isAgg186, Try.underlying186, Try.zeroValue186, by kernel_rfl, by kernel_rfl, by kernel_rfl, by kernel_rfl⟩
def ti187 : TI := ⟨1, false, (TypeDesc.func #[22] #[] false), Value.nilFunc, 8, false, false, false⟩
theorem tf187 : TF Try.prog 187 ti187 := ⟨Try.sizeOf187, Try.isAgg187, Try.underlying187, Try.zeroValue187, by kernel_rfl, by kernel_rfl, by kernel_rfl, by kernel_rfl⟩
def ti188 : TI := ⟨1, false, (TypeDesc.func #[30] #[] false), Value.nilFunc, 8, false, false, false⟩
theorem tf188 : TF Try.prog 188 ti188 := ⟨Try.sizeOf188, Try.isAgg188, Try.underlying188, Try.zeroValue188, by kernel_rfl, by kernel_rfl, by kernel_rfl, by kernel_rfl⟩
def ti189 : TI := ⟨1, false, (TypeDesc.pointer 179), (Value.pointer none), 8, false, false, true⟩
theorem tf189 : TF Try.prog 189 ti189 := ⟨Try.sizeOf189, Try.isAgg189, Try.underlying189, Try.zeroValue189, by kernel_rfl, by kernel_rfl, by kernel_rfl, by kernel_rfl⟩
def ti191 : TI := ⟨1, false, (TypeDesc.func #[63, 3, 3, 183, 115] #[3, 3] false), Value.nilFunc, 8, false, false, false⟩
theorem tf191 : TF Try.prog 191 ti191 := ⟨Try.sizeOf191, Try.isAgg191, Try.underlying191, Try.zeroValue191, by kernel_rfl, by kernel_rfl, by kernel_rfl, by kernel_rfl⟩
def ti192 : TI := ⟨1, false, (TypeDesc.func #[77, 3, 3, 183, 132] #[3, 3] false), Value.nilFunc, 8, false, false, false⟩
theorem tf192 : TF Try.prog 192 ti192 := ⟨Try.sizeOf192, Try.isAgg192, Try.underlying192, Try.zeroValue192, by kernel_rfl, by kernel_rfl, by kernel_rfl, by kernel_rfl⟩
def ti193 : TI := ⟨1, false, (TypeDesc.func #[] #[9] false), Value.nilFunc, 8, false, false, false⟩
theorem tf193 : TF Try.prog 193 ti193 := ⟨Try.sizeOf193, Try.isAgg193, Try.underlying193, Try.zeroValue193, by kernel_rfl, by kernel_rfl, by kernel_rfl, by kernel_rfl⟩
def ti199 : TI := ⟨1, false, (TypeDesc.int IntKind.u8), (Value.int IntKind.u8 0), 1, false, false, true⟩
theorem tf199 : TF Try.prog 199 ti199 := ⟨Try.sizeOf199, Try.isAgg199, Try.underlying199, Try.zeroValue199, by kernel_rfl, by kernel_rfl, by kernel_rfl, by kernel_rfl⟩
def ti200 : TI := ⟨1, false, (TypeDesc.int IntKind.u8), (Value.int IntKind.u8 0), 1, false, false, true⟩
theorem tf200 : TF Try.prog 200 ti200 := ⟨Try.sizeOf200, Try.isAgg200, Try.underlying200, Try.zeroValue200, by kernel_rfl, by kernel_rfl, by kernel_rfl, by kernel_rfl⟩
def ti201 : TI := ⟨1, false, (TypeDesc.func #[207, 207] #[4] false), Value.nilFunc, 8, false, false, false⟩
theorem tf201 : TF Try.prog 201 ti201 := ⟨Try.sizeOf201, Try.isAgg201, Try.underlying201, Try.zeroValue201, by kernel_rfl, by kernel_rfl, by kernel_rfl, by kernel_rfl⟩
def ti202 : TI := ⟨1, false, (TypeDesc.pointer 5), (Value.pointer none), 8, false, false, true⟩
theorem tf202 : TF Try.prog 202 ti202 := ⟨Try.sizeOf202, Try.isAgg202, Try.underlying202, Try.zeroValue202, by kernel_rfl, by kernel_rfl, by kernel_rfl, by kernel_rfl⟩
def ti203 : TI := ⟨1, false, (TypeDesc.int IntKind.i32), (Value.int IntKind.i32 0), 4, false, false, true⟩
theorem tf203 : TF Try.prog 203 ti203 := ⟨Try.sizeOf203, Try.isAgg203, Try.underlying203, Try.zeroValue203, by kernel_rfl, by kernel_rfl, by kernel_rfl, by kernel_rfl⟩
def ti204 : TI := ⟨1, false, (TypeDesc.int IntKind.i32), (Value.int IntKind.i32 0), 4, false, false, true⟩
theorem tf204 : TF Try.prog 204 ti204 := ⟨Try.sizeOf204, Try.isAgg204, Try.underlying204, Try.zeroValue204, by kernel_rfl, by kernel_rfl, by kernel_rfl, by kernel_rfl⟩
def tt : TT := [(1, ti1), (2, ti2), (3, ti3), (4, ti4), (5, ti5), (6, ti6), (9, ti9), (10, ti10), (11, ti11), (12, ti12), (15, ti15), (16, ti16), (17, ti17), (20, ti20), (21, ti21), (22, ti22), (23, ti23), (24, ti24), (25, ti25), (26, ti26), (27, ti27), (28, ti28), (29, ti29), (30, ti30), (31, ti31), (32, ti32), (33, ti33), (34, ti34), (36, ti36), (37, ti37), (38, ti38), (39, ti39), (40, ti40), (41, ti41), (42, ti42), (43, ti43), (44, ti44), (46, ti46), (48, ti48), (50, ti50), (51, ti51), (52, ti52), (53, ti53), (54, ti54), (55, ti55), (56, ti56), (57, ti57), (58, ti58), (59, ti59), (60, ti60), (61, ti61), (62, ti62), (63, ti63), (64, ti64), (65, ti65), (66, ti66), (67, ti67), (68, ti68), (69, ti69), (70, ti70), (71, ti71), (72, ti72), (73, ti73), (74, ti74), (75, ti75), (76, ti76), (77, ti77), (78, ti78), (79, ti79), (80, ti80), (81, ti81), (82, ti82), (83, ti83), (84, ti84), (85, ti85), (86, ti86), (87, ti87), (88, ti88), (89, ti89), (90, ti90), (91, ti91), (92, ti92), (93, ti93), (94, ti94), (95, ti95), (96, ti96), (97, ti97), (98, ti98), (99, ti99), (100, ti100), (102, ti102), (103, ti103), (104, ti104), (105, ti105), (106, ti106), (107, ti107), (108, ti108), (109, ti109), (110, ti110), (111, ti111), (112, ti112), (113, ti113), (114, ti114), (115, ti115), (116, ti116), (117, ti117), (118, ti118), (119, ti119), (120, ti120), (121, ti121), (122, ti122), (123, ti123), (124, ti124), (125, ti125), (126, ti126), (127, ti127), (128, ti128), (129, ti129), (130, ti130), (131, ti131), (132, ti132), (133, ti133), (134, ti134), (135, ti135), (136, ti136), (137, ti137), (138, ti138), (139, ti139), (140, ti140), (141, ti141), (142, ti142), (143, ti143), (144, ti144), (145, ti145), (146, ti146), (147, ti147), (148, ti148), (149, ti149), (150, ti150), (151, ti151), (152, ti152), (153, ti153), (154, ti154), (155, ti155), (156, ti156), (157, ti157), (158, ti158), (159, ti159), (160, ti160), (161, ti161), (162, ti162), (163, ti163), (164, ti164), (166, ti166), (167, ti167), (168, ti168), (169, ti169), (170, ti170), (171, ti171), (172, ti172), (173, ti173), (174, ti174), (175, ti175), (176, ti176), (177, ti177), (178, ti178), (179, ti179), (180, ti180), (181, ti181), (182, ti182), (183, ti183), (184, ti184), (185, ti185), (186, ti186), (187, ti187), (188, ti188), (189, ti189), (191, ti191), (192, ti192), (193, ti193), (199, ti199), (200, ti200), (201, ti201), (202, ti202), (203, ti203), (204, ti204)]
theorem ttok : TTok Try.prog tt := TTok.cons tf1 (TTok.cons tf2 (TTok.cons tf3 (TTok.cons tf4 (TTok.cons tf5 (TTok.cons tf6 (TTok.cons tf9 (TTok.cons tf10 (TTok.cons tf11 (TTok.cons tf12 (TTok.cons tf15 (TTok.cons tf16 (TTok.cons tf17 (TTok.cons tf20 (TTok.cons tf21 (TTok.cons tf22 (TTok.cons tf23 (TTok.cons tf24 (TTok.cons tf25 (TTok.cons tf26 (TTok.cons tf27 (TTok.cons tf28 (TTok.cons tf29 (TTok.cons tf30 (TTok.cons tf31 (TTok.cons tf32 (TTok.cons tf33 (TTok.cons tf34 (TTok.cons tf36 (TTok.cons tf37 (TTok.cons tf38 (TTok.cons tf39 (TTok.cons tf40 (TTok.cons tf41 (TTok.cons tf42 (TTok.cons tf43 (TTok.cons tf44 (TTok.cons tf46 (TTok.cons tf48 (TTok.cons tf50 (TTok.cons tf51 (TTok.cons tf52 (TTok.cons tf53 (TTok.cons tf54 (TTok.cons tf55 (TTok.cons tf56 (TTok.cons tf57 (TTok.cons tf58 (TTok.cons tf59 (TTok.cons tf60 (TTok.cons tf61 (TTok.cons tf62 (TTok.cons tf63 (TTok.cons tf64 (TTok.cons tf65 (TTok.cons tf66 (TTok.cons tf67 (TTok.cons tf68 (TTok.cons tf69 (TTok.cons tf70 (TTok.cons tf71 (TTok.cons tf72 (TTok.cons tf73 (TTok.cons tf74 (TTok.cons tf75 (TTok.cons tf76 (TTok.cons tf77 (TTok.cons tf78 (TTok.cons tf79 (TTok.cons tf80 (TTok.cons tf81 (TTok.cons tf82 (TTok.cons tf83 (TTok.cons tf84 (TTok.cons tf85 (TTok.cons tf86 (TTok.cons tf87 (TTok.cons tf88 (TTok.cons tf89 (TTok.cons tf90 (TTok.cons tf91 (TTok.cons tf92 (TTok.cons tf93 (TTok.cons tf94 (TTok.cons tf95 (TTok.cons tf96 (TTok.cons tf97 (TTok.cons tf98 (TTok.cons tf99 (TTok.cons tf100 (TTok.cons tf102 (TTok.cons tf103 (TTok.cons tf104 (TTok.cons tf105 (TTok.cons tf106 (TTok.cons tf107 (TTok.cons tf108 (TTok.cons tf109 (TTok.cons tf110 (TTok.cons tf111 (TTok.cons tf112 (TTok.cons tf113 (TTok.cons tf114 (TTok.cons tf115 (TTok.cons tf116 (TTok.cons tf117 (TTok.cons tf118 (TTok.cons tf119 (TTok.cons tf120 (TTok.cons tf121 (TTok.cons tf122 (TTok.cons tf123 (TTok.cons tf124 (TTok.cons tf125 (TTok.cons tf126 (TTok.cons tf127 (TTok.cons tf128 (TTok.cons tf129 (TTok.cons tf130 (TTok.cons tf131 (TTok.cons tf132 (TTok.cons tf133 (TTok.cons tf134 (TTok.cons tf135 (TTok.cons tf136 (TTok.cons tf137 (TTok.cons tf138 (TTok.cons tf139 (TTok.cons tf140 (TTok.cons tf141 (TTok.cons tf142 (TTok.cons tf143 (TTok.cons tf144 (TTok.cons tf145 (TTok.cons tf146 (TTok.cons tf147 (TTok.cons tf148 (TTok.cons tf149 (TTok.cons tf150 (TTok.cons tf151 (TTok.cons tf152 (TTok.cons tf153 (TTok.cons tf154 (TTok.cons tf155 (TTok.cons tf156 (TTok.cons tf157 (TTok.cons tf158 (TTok.cons tf159 (TTok.cons tf160 (TTok.cons tf161 (TTok.cons tf162 (TTok.cons tf163 (TTok.cons tf164 (TTok.cons tf166 (TTok.cons tf167 (TTok.cons tf168 (TTok.cons tf169 (TTok.cons tf170 (TTok.cons tf171 (TTok.cons tf172 (TTok.cons tf173 (TTok.cons tf174 (TTok.cons tf175 (TTok.cons tf176 (TTok.cons tf177 (TTok.cons tf178 (TTok.cons tf179 (TTok.cons tf180 (TTok.cons tf181 (TTok.cons tf182 (TTok.cons tf183 (TTok.cons tf184 (TTok.cons tf185 (TTok.cons tf186 (TTok.cons tf187 (TTok.cons tf188 (TTok.cons tf189 (TTok.cons tf191 (TTok.cons tf192 (TTok.cons tf193 (TTok.cons tf199 (TTok.cons tf200 (TTok.cons tf201 (TTok.cons tf202 (TTok.cons tf203 (TTok.cons tf204 (TTok.nil))))))))))))))))))))))))))))))))))))))))))))))))))))))))))))))))))))))))))))))))))))))))))))))))))))))))))))))))))))))))))))))))))))))))))))))))))))))))))))))))))))))))))))))))))))))))))
end Go.Eng
/- The functions of the seat. -/
set_option maxRecDepth 100000
namespace Go.Eng
open Go Go.RowKit Go.Proofs
def ft : FL := [(3, some true), (4, some true), (5, some true), (6, some true), (7, some true), (8, some true), (9, some true), (10, some true), (11, some true), (12, some true), (13, some true), (14, some true), (15, some true), (16, some true), (17, some true), (18, some true), (19, some true), (20, some true), (21, some true), (22, some true), (23, some true), (24, some true), (25, some true), (26, some true), (27, some true), (28, some true), (29, some true), (30, some true), (31, some true), (32, some true), (33, some true), (34, some true), (35, some true), (36, some true), (37, some true), (38, some true), (39, some true), (40, some true), (41, some true), (42, some true), (43, some true), (44, some true), (45, some true), (46, some true), (47, some true), (48, some true), (49, some true), (50, some true), (51, some true), (52, some true), (53, some true), (54, some true), (55, some false), (56, some true), (57, some true), (58, some true), (59, some true), (60, some true), (61, some true), (62, some true), (63, some true), (64, some true), (65, some true), (66, some true), (67, some false), (68, some true), (69, some true), (70, some true), (71, some true), (72, some true), (73, some true), (74, some true), (75, some true), (76, some true), (77, some true), (78, some true), (79, some false), (80, some true), (81, some true), (82, some false), (83, some true), (84, some true), (85, some true), (86, some true), (87, some true), (88, some true), (89, some true), (90, some false), (91, some false), (92, some true), (93, none), (94, some false), (95, some false), (96, some true), (97, some true), (98, some true), (99, some true), (100, some false), (101, some true), (102, some true), (103, some true), (104, some true), (105, some false), (106, some true), (107, some false), (108, some true), (109, some true), (110, none), (111, some false), (112, some false), (113, some false), (114, none), (115, some false), (116, some true), (117, some false), (118, some false), (119, some false), (120, some false), (121, some false), (122, some false), (123, some false), (124, some false), (125, some true), (126, some true), (127, some false), (128, some false), (129, some false), (130, some false), (131, some false), (132, some false), (133, some false), (134, some false), (135, some false), (136, some true), (137, some false), (138, some false), (139, some true), (140, some true), (141, some false), (142, some false), (143, some false), (144, some false), (145, some false), (146, some true), (147, some true), (148, some false), (149, some false), (165, none)]
theorem ftok : FTok Try.prog ft := FTok.cons Try.func3 (by kernel_rfl) rfl (FTok.cons Try.func4 (by kernel_rfl) rfl (FTok.cons Try.func5 (by kernel_rfl) rfl (FTok.cons Try.func6 (by kernel_rfl) rfl (FTok.cons Try.func7 (by kernel_rfl) rfl (FTok.cons Try.func8 (by kernel_rfl) rfl (FTok.cons Try.func9 (by kernel_rfl) rfl (FTok.cons Try.func10 (by kernel_rfl) rfl (FTok.cons Try.func11 (by kernel_rfl) rfl (FTok.cons Try.func12 (by kernel_rfl) rfl (FTok.cons Try.func13 (by kernel_rfl) rfl (FTok.cons Try.func14 (by kernel_rfl) rfl (FTok.cons Try.func15 (by kernel_rfl) rfl (FTok.cons Try.func16 (by kernel_rfl) rfl (FTok.cons Try.func17 (by kernel_rfl) rfl (FTok.cons Try.func18 (by kernel_rfl) rfl (FTok.cons Try.func19 (by kernel_rfl) rfl (FTok.cons Try.func20 (by kernel_rfl) rfl (FTok.cons Try.func21 (by kernel_rfl) rfl (FTok.cons Try.func22 (by kernel_rfl) rfl (FTok.cons Try.func23 (by kernel_rfl) rfl (FTok.cons Try.func24 (by kernel_rfl) rfl (FTok.cons Try.func25 (by kernel_rfl) rfl (FTok.cons Try.func26 (by kernel_rfl) rfl (FTok.cons Try.func27 (by kernel_rfl) rfl (FTok.cons Try.func28 (by kernel_rfl) rfl (FTok.cons Try.func29 (by kernel_rfl) rfl (FTok.cons Try.func30 (by kernel_rfl) rfl (FTok.cons Try.func31 (by kernel_rfl) rfl (FTok.cons Try.func32 (by kernel_rfl) rfl (FTok.cons Try.func33 (by kernel_rfl) rfl (FTok.cons Try.func34 (by kernel_rfl) rfl (FTok.cons Try.func35 (by kernel_rfl) rfl (FTok.cons Try.func36 (by kernel_rfl) rfl (FTok.cons Try.func37 (by kernel_rfl) rfl (FTok.cons Try.func38 (by kernel_rfl) rfl (FTok.cons Try.func39 (by kernel_rfl) rfl (FTok.cons Try.func40 (by kernel_rfl) rfl (FTok.cons Try.func41 (by kernel_rfl) rfl (FTok.cons Try.func42 (by kernel_rfl) rfl (FTok.cons Try.func43 (by kernel_rfl) rfl (FTok.cons Try.func44 (by kernel_rfl) rfl (FTok.cons Try.func45 (by kernel_rfl) rfl (FTok.cons Try.func46 (by kernel_rfl) rfl (FTok.cons Try.func47 (by kernel_rfl) rfl (FTok.cons Try.func48 (by kernel_rfl) rfl (FTok.cons Try.func49 (by kernel_rfl) rfl (FTok.cons Try.func50 (by kernel_rfl) rfl (FTok.cons Try.func51 (by kernel_rfl) rfl (FTok.cons Try.func52 (by kernel_rfl) rfl (FTok.cons Try.func53 (by kernel_rfl) rfl (FTok.cons Try.func54 (by kernel_rfl) rfl (FTok.cons Try.func55 (by kernel_rfl) rfl (FTok.cons Try.func56 (by kernel_rfl) rfl (FTok.cons Try.func57 (by kernel_rfl) rfl (FTok.cons Try.func58 (by kernel_rfl) rfl (FTok.cons Try.func59 (by kernel_rfl) rfl (FTok.cons Try.func60 (by kernel_rfl) rfl (FTok.cons Try.func61 (by kernel_rfl) rfl (FTok.cons Try.func62 (by kernel_rfl) rfl (FTok.cons Try.func63 (by kernel_rfl) rfl (FTok.cons Try.func64 (by kernel_rfl) rfl (FTok.cons Try.func65 (by kernel_rfl) rfl (FTok.cons Try.func66 (by kernel_rfl) rfl (FTok.cons Try.func67 (by kernel_rfl) rfl (FTok.cons Try.func68 (by kernel_rfl) rfl (FTok.cons Try.func69 (by kernel_rfl) rfl (FTok.cons Try.func70 (by kernel_rfl) rfl (FTok.cons Try.func71 (by kernel_rfl) rfl (FTok.cons Try.func72 (by kernel_rfl) rfl (FTok.cons Try.func73 (by kernel_rfl) rfl (FTok.cons Try.func74 (by kernel_rfl) rfl (FTok.cons Try.func75 (by kernel_rfl) rfl (FTok.cons Try.func76 (by kernel_rfl) rfl (FTok.cons Try.func77 (by kernel_rfl) rfl (FTok.cons Try.func78 (by kernel_rfl) rfl (FTok.cons Try.func79 (by kernel_rfl) rfl (FTok.cons Try.func80 (by kernel_rfl) rfl (FTok.cons Try.func81 (by kernel_rfl) rfl (FTok.cons Try.func82 (by kernel_rfl) rfl (FTok.cons Try.func83 (by kernel_rfl) rfl (FTok.cons Try.func84 (by kernel_rfl) rfl (FTok.cons Try.func85 (by kernel_rfl) rfl (FTok.cons Try.func86 (by kernel_rfl) rfl (FTok.cons Try.func87 (by kernel_rfl) rfl (FTok.cons Try.func88 (by kernel_rfl) rfl (FTok.cons Try.func89 (by kernel_rfl) rfl (FTok.cons Try.func90 (by kernel_rfl) rfl (FTok.cons Try.func91 (by kernel_rfl) rfl (FTok.cons Try.func92 (by kernel_rfl) rfl (FTok.consX (FTok.cons Try.func94 (by kernel_rfl) rfl (FTok.cons Try.func95 (by kernel_rfl) rfl (FTok.cons Try.func96 (by kernel_rfl) rfl (FTok.cons Try.func97 (by kernel_rfl) rfl (FTok.cons Try.func98 (by kernel_rfl) rfl (FTok.cons Try.func99 (by kernel_rfl) rfl (FTok.cons Try.func100 (by kernel_rfl) rfl (FTok.cons Try.func101 (by kernel_rfl) rfl (FTok.cons Try.func102 (by kernel_rfl) rfl (FTok.cons Try.func103 (by kernel_rfl) rfl (FTok.cons Try.func104 (by kernel_rfl) rfl (FTok.cons Try.func105 (by kernel_rfl) rfl (FTok.cons Try.func106 (by kernel_rfl) rfl (FTok.cons Try.func107 (by kernel_rfl) rfl (FTok.cons Try.func108 (by kernel_rfl) rfl (FTok.cons Try.func109 (by kernel_rfl) rfl (FTok.consX (FTok.cons Try.func111 (by kernel_rfl) rfl (FTok.cons Try.func112 (by kernel_rfl) rfl (FTok.cons Try.func113 (by kernel_rfl) rfl (FTok.consX (FTok.cons Try.func115 (by kernel_rfl) rfl (FTok.cons Try.func116 (by kernel_rfl) rfl (FTok.cons Try.func117 (by kernel_rfl) rfl (FTok.cons Try.func118 (by kernel_rfl) rfl (FTok.cons Try.func119 (by kernel_rfl) rfl (FTok.cons Try.func120 (by kernel_rfl) rfl (FTok.cons Try.func121 (by kernel_rfl) rfl (FTok.cons Try.func122 (by kernel_rfl) rfl (FTok.cons Try.func123 (by kernel_rfl) rfl (FTok.cons Try.func124 (by kernel_rfl) rfl (FTok.cons Try.func125 (by kernel_rfl) rfl (FTok.cons Try.func126 (by kernel_rfl) rfl (FTok.cons Try.func127 (by kernel_rfl) rfl (FTok.cons Try.func128 (by kernel_rfl) rfl (FTok.cons Try.func129 (by kernel_rfl) rfl (FTok.cons Try.func130 (by kernel_rfl) rfl (FTok.cons Try.func131 (by kernel_rfl) rfl (FTok.cons Try.func132 (by kernel_rfl) rfl (FTok.cons Try.func133 (by kernel_rfl) rfl (FTok.cons Try.func134 (by kernel_rfl) rfl (FTok.cons Try.func135 (by kernel_rfl) rfl (FTok.cons Try.func136 (by kernel_rfl) rfl (FTok.cons Try.func137 (by kernel_rfl) rfl (FTok.cons Try.func138 (by kernel_rfl) rfl (FTok.cons Try.func139 (by kernel_rfl) rfl (FTok.cons Try.func140 (by kernel_rfl) rfl (FTok.cons Try.func141 (by kernel_rfl) rfl (FTok.cons Try.func142 (by kernel_rfl) rfl (FTok.cons Try.func143 (by kernel_rfl) rfl (FTok.cons Try.func144 (by kernel_rfl) rfl (FTok.cons Try.func145 (by kernel_rfl) rfl (FTok.cons Try.func146 (by kernel_rfl) rfl (FTok.cons Try.func147 (by kernel_rfl) rfl (FTok.cons Try.func148 (by kernel_rfl) rfl (FTok.cons Try.func149 (by kernel_rfl) rfl (FTok.consX (FTok.nil))))))))))))))))))))))))))))))))))))))))))))))))))))))))))))))))))))))))))))))))))))))))))))))))))))))))))))))))))))))))))))))))))))))))))))))))))))
theorem mixed : Try.prog.follows .mixedOrders = true := by kernel_rfl
end Go.Eng
namespace Go.Eng
open Go
theorem w_u32 (x : Int) : IntKind.u32.wrap x = x % 4294967296 := by unfold IntKind.wrap IntKind.bits IntKind.signed; simp
theorem w_u64 (x : Int) : IntKind.u64.wrap x = x % 18446744073709551616 := by unfold IntKind.wrap IntKind.bits IntKind.signed; simp
theorem w_u16 (x : Int) : IntKind.u16.wrap x = x % 65536 := by unfold IntKind.wrap IntKind.bits IntKind.signed; simp
theorem w_u8 (x : Int) : IntKind.u8.wrap x = x % 256 := by unfold IntKind.wrap IntKind.bits IntKind.signed; simp
theorem w_i64 {x : Int} (h1 : -9223372036854775808 ≤ x) (h2 : x ≤ 9223372036854775807) : IntKind.i64.wrap x = x := by
  unfold IntKind.wrap IntKind.bits IntKind.signed
  simp
  split <;> omega
theorem wf_u32 {n : Int} (h : (Lit.int .u32 n).wf = true) : 0 ≤ n ∧ n ≤ 4294967295 := by
  simp [Lit.wf, IntKind.min, IntKind.max, IntKind.bits, IntKind.signed] at h
  omega
theorem wf_u16 {n : Int} (h : (Lit.int .u16 n).wf = true) : 0 ≤ n ∧ n ≤ 65535 := by
  simp [Lit.wf, IntKind.min, IntKind.max, IntKind.bits, IntKind.signed] at h
  omega
theorem wf_u8 {n : Int} (h : (Lit.int .u8 n).wf = true) : 0 ≤ n ∧ n ≤ 255 := by
  simp [Lit.wf, IntKind.min, IntKind.max, IntKind.bits, IntKind.signed] at h
  omega
theorem wf_u64 {n : Int} (h : (Lit.int .u64 n).wf = true) : 0 ≤ n ∧ n ≤ 18446744073709551615 := by
  simp [Lit.wf, IntKind.min, IntKind.max, IntKind.bits, IntKind.signed] at h
  omega
theorem wf_i64 {n : Int} (h : (Lit.int .i64 n).wf = true) : -9223372036854775808 ≤ n ∧ n ≤ 9223372036854775807 := by
  simp [Lit.wf, IntKind.min, IntKind.max, IntKind.bits, IntKind.signed] at h
  omega
end Go.Eng
set_option linter.unusedVariables false
namespace Go.Eng
open Go Go.RowKit Go.Proofs
abbrev vu (n : Int) : IC := .v (.int .u32 n)
abbrev vi (n : Int) : IC := .v (.int .i64 n)
abbrev vr (n : Int) : IC := .v (.int .i32 n)
abbrev vci (k : IntKind) (n : Int) : AV := .c (.v (.int k n))
abbrev vcb (b : Bool) : AV := .c (.v (.bool b))
abbrev vcs (s : ByteArray) : AV := .c (.v (.string s))
abbrev nilS : AV := .c (.v (.slice none 0 0))
abbrev rns (l : List Int) : AV := .c (.sl 1 l.length (runeF l))
theorem getD_take {α : Type} (l : List α) (n j : Nat) (d : α) (h : j < n) : (l.take n).getD j d = l.getD j d := by simp only [List.getD_eq_getElem?_getD, List.getElem?_take, if_pos h]
theorem getD_drop {α : Type} (l : List α) (i j : Nat) (d : α) : (l.drop i).getD j d = l.getD (i + j) d := by simp only [List.getD_eq_getElem?_getD, List.getElem?_drop]
theorem ti_nat (n : Nat) : (n : Int).toNat = n := Int.toNat_natCast n
/-- An append of one element. -/
theorem app1 {α : Type} {enc : α → List IC} {d : α} {l : List α} {f g : Nat → List IC} {K : Nat → (Nat → List IC) → Prop} (a : α) (hf : ∀ k, k < l.length → f k = enc (l.getD k d)) (hg : g 0 = enc a) (h : K (l ++ [a]).length fun k => enc ((l ++ [a]).getD k d)) :
    ∃ (n' : Nat) (f' : Nat → List IC), n' = l.length + 1 ∧ (∀ k, k < l.length → f' k = f k) ∧ (∀ k, k < 1 → f' (l.length + k) = g k) ∧ K n' f' := by
  refine ⟨_, _, by simp, fun k hk => ?_, fun k hk => ?_, h⟩
  · rw [hf k hk]
    simp [List.getD_eq_getElem?_getD, List.getElem?_append_left hk]
  · obtain rfl : k = 0 := by omega
    rw [hg]
    simp [List.getD_eq_getElem?_getD]
theorem frz_two (i j : Nat) {st st1 st' : St} (h1 : ∀ K : St → Prop, K st1 → frzK st i K) (h2 : ∀ K : St → Prop, K st' → frzK st1 j K) : Weak st st' := (frz_weak i h1).trans (frz_weak j h2)
end Go.Eng
/- Ids as pairs. -/
set_option linter.unusedVariables false
namespace Go.Eng
open Go Go.RowKit Go.Proofs
abbrev I2 := Int × Int
def u32P (a : I2) : Prop := (0 ≤ a.1 ∧ a.1 ≤ 4294967295) ∧ 0 ≤ a.2 ∧ a.2 ≤ 4294967295
abbrev idF (a : I2) : List IC := [vu a.1, vu a.2]
abbrev idA (a : I2) : AV := .agg (idF a)
end Go.Eng
/- Entries in chunks: plain laws. -/
set_option linter.unusedVariables false
set_option linter.unusedSimpArgs false
namespace Go.Eng
structure En where
  id : I2
  ch : Int
  gone : Bool
def en0 : En := ⟨(0, 0), 0, false⟩
instance : Inhabited En := ⟨en0⟩
deriving instance DecidableEq for En
/-- How many are shown. -/
def shn (l : List En) : Nat := l.countP fun e => !e.gone
abbrev Ck := List (List En)
def shnC (cs : Ck) : Nat := shn cs.flatten
/-- Where an Id is: in which chunk, and where there. -/
def plcC : Ck → I2 → Option (Nat × Nat)
  | [], _ => none
  | c :: cs, a => match c.findIdx? (fun e => e.id == a) with
    | some k => some (0, k)
    | none => (plcC cs a).map fun p => (p.1 + 1, p.2)
def sumL (cs : Ck) : Nat := cs.flatten.length
theorem sumL_cons (c : List En) (cs : Ck) : sumL (c :: cs) = c.length + sumL cs := by simp [sumL]
theorem sumL_append (a b : Ck) : sumL (a ++ b) = sumL a + sumL b := by simp [sumL]
theorem shnC_append (a b : Ck) : shnC (a ++ b) = shnC a + shnC b := by simp [shnC, shn]
theorem shnC_cons (c : List En) (cs : Ck) : shnC (c :: cs) = shn c + shnC cs := by simp [shnC, shn]
theorem plcC_cons (c : List En) (cs : Ck) (a : I2) : plcC (c :: cs) a = match c.findIdx? (fun e => e.id == a) with | some k => some (0, k) | none => (plcC cs a).map fun p => (p.1 + 1, p.2) := rfl
theorem plcC_find : ∀ (cs : Ck) (a : I2), (plcC cs a).map (fun p => sumL (cs.take p.1) + p.2) = cs.flatten.findIdx? (fun e => e.id == a)
  | [], a => rfl
  | c :: cs, a => by
    rw [List.flatten_cons, List.findIdx?_append, ← plcC_find cs a, plcC_cons]
    cases h : c.findIdx? (fun e => e.id == a) with
    | some k => simp [sumL]
    | none =>
      cases h2 : plcC cs a with
      | none => simp
      | some p => simp [sumL, Nat.add_assoc, Nat.add_comm, Nat.add_left_comm]
theorem plcC_lt {cs : Ck} {a : I2} {i k : Nat} (h : plcC cs a = some (i, k)) : i < cs.length ∧ k < (cs.getD i []).length := by
  induction cs generalizing i with
  | nil => cases h
  | cons c cs ih =>
    unfold plcC at h
    cases h2 : c.findIdx? (fun e => e.id == a) with
    | some q =>
      rw [h2] at h
      cases h
      rw [List.findIdx?_eq_some_iff_findIdx_eq] at h2
      exact ⟨by simp, by simpa using h2.1⟩
    | none =>
      rw [h2] at h
      cases h3 : plcC cs a with
      | none => rw [h3] at h; cases h
      | some p =>
        rw [h3] at h
        cases h
        have := ih h3
        exact ⟨by simpa using this.1, by simpa using this.2⟩
/-- Hidden at k. -/
def hideAt (l : List En) (k : Nat) : List En := l.set k { l.getD k en0 with gone := true }
theorem flat_put {cs : Ck} {i at_ : Nat} (hi : i < cs.length) (ha : at_ ≤ (cs.getD i []).length) (m : Ck) (e : En) (hm : m.flatten = (cs.getD i []).take at_ ++ [e] ++ (cs.getD i []).drop at_) :
    (cs.take i ++ m ++ cs.drop (i + 1)).flatten = cs.flatten.take (sumL (cs.take i) + at_) ++ [e] ++ cs.flatten.drop (sumL (cs.take i) + at_) := by
  have g : cs = cs.take i ++ (cs.getD i [] :: cs.drop (i + 1)) := by
    rw [List.getD_eq_getElem?_getD, List.getElem?_eq_getElem hi]
    exact (List.take_append_drop i cs).symm.trans (by rw [List.drop_eq_getElem_cons hi]; rfl)
  have f : cs.flatten = (cs.take i).flatten ++ (cs.getD i [] ++ (cs.drop (i + 1)).flatten) := by
    conv => lhs; rw [g]
    rw [List.flatten_append, List.flatten_cons]
  rw [f, List.flatten_append, List.flatten_append, hm]
  unfold sumL
  rw [List.take_append, List.drop_append, List.take_of_length_le (Nat.le_add_right _ _), List.drop_of_length_le (Nat.le_add_right _ _), Nat.add_sub_cancel_left, List.take_append_of_le_length ha, List.drop_append_of_le_length ha]
  simp
theorem set_at {l : List En} {k : Nat} (hk : k < l.length) (e : En) : l.set k e = l.take k ++ [e] ++ l.drop (k + 1) := by
  rw [List.set_eq_take_append_cons_drop, if_pos hk]; simp
theorem flat_hide {cs : Ck} {i k : Nat} (hi : i < cs.length) (hk : k < (cs.getD i []).length) : (cs.take i ++ [hideAt (cs.getD i []) k] ++ cs.drop (i + 1)).flatten = hideAt cs.flatten (sumL (cs.take i) + k) := by
  have g : cs = cs.take i ++ (cs.getD i [] :: cs.drop (i + 1)) := by
    rw [List.getD_eq_getElem?_getD, List.getElem?_eq_getElem hi]
    exact (List.take_append_drop i cs).symm.trans (by rw [List.drop_eq_getElem_cons hi]; rfl)
  have f : cs.flatten = (cs.take i).flatten ++ (cs.getD i [] ++ (cs.drop (i + 1)).flatten) := by
    conv => lhs; rw [g]
    rw [List.flatten_append, List.flatten_cons]
  rw [f, List.flatten_append, List.flatten_append]
  unfold hideAt sumL
  generalize cs.getD i [] = c at hk ⊢
  generalize (cs.take i).flatten = p
  generalize (cs.drop (i + 1)).flatten = q
  rw [List.set_append, if_neg (by omega), Nat.add_sub_cancel_left, List.set_append, if_pos hk]
  have : (p ++ (c ++ q)).getD (p.length + k) en0 = c.getD k en0 := by
    rw [List.getD_eq_getElem?_getD, List.getElem?_append_right (by omega), Nat.add_sub_cancel_left, List.getElem?_append_left hk, ← List.getD_eq_getElem?_getD]
  rw [this]
  simp
/-- The places of those that are shown. -/
def shp : List En → Nat → List Nat
  | [], _ => []
  | e :: l, n => if e.gone = true then shp l (n + 1) else n :: shp l (n + 1)
theorem shp_len : ∀ (l : List En) (n : Nat), (shp l n).length = shn l
  | [], _ => rfl
  | e :: l, n => by
    unfold shp shn
    rw [List.countP_cons]
    have := shp_len l (n + 1)
    unfold shn at this
    cases h : e.gone <;> simp [this]
theorem shp_append : ∀ (a b : List En) (n : Nat), shp (a ++ b) n = shp a n ++ shp b (n + a.length)
  | [], b, n => by simp [shp]
  | e :: a, b, n => by
    have := shp_append a b (n + 1)
    rw [List.cons_append, shp, shp, this, List.length_cons, show n + 1 + a.length = n + (a.length + 1) from by omega]
    split
    · rfl
    · rfl
end Go.Eng
/- An index: chunks, and what there is of them together. -/
set_option linter.unusedVariables false
set_option linter.unusedSimpArgs false
set_option maxRecDepth 100000
set_option maxHeartbeats 4000000
namespace Go.Eng
open Go Go.RowKit Go.Proofs
abbrev enF (e : En) : List IC := [vu e.id.1, vu e.id.2, vr e.ch, .v (.bool e.gone)]
abbrev enR (l : List En) : Nat → List IC := fun k => enF (l.getD k en0)
abbrev enS (l : List En) : AV := .c (.sl 4 l.length (enR l))
abbrev chF (c : List En) : List IC := [.sl 4 c.length (enR c), vi (shn c : Int)]
abbrev chR (cs : Ck) : Nat → List IC := fun k => chF (cs.getD k [])
abbrev chS (cs : Ck) : AV := .c (.sl 2 cs.length (chR cs))
abbrev ixF (cs : Ck) : List IC := [.sl 2 cs.length (chR cs), vi (sumL cs : Int), vi (shnC cs : Int)]
abbrev ixA (cs : Ck) : AV := .agg (ixF cs)
theorem e64 {k : Nat} (hk : k ≤ 1000000000000) : IntKind.i64.wrap ((k : Int) + 1) = ((k + 1 : Nat) : Int) := by rw [w_i64 (by omega) (by omega)]; omega
theorem take_snocE {l : List En} {k : Nat} (h : k < l.length) : l.take (k + 1) = l.take k ++ [l.getD k en0] := by
  rw [List.take_add_one, List.getD_eq_getElem?_getD, List.getElem?_eq_getElem h]; rfl
theorem shn_snoc (l : List En) (e : En) : shn (l ++ [e]) = shn l + if e.gone = true then 0 else 1 := by
  unfold shn
  rw [List.countP_append]
  cases h : e.gone <;> simp [h]
theorem shn_len (l : List En) : shn l ≤ l.length := List.countP_le_length
def pkI (l : List En) (n : Nat) (st : St) : Prop := ∃ k : Nat, n = l.length - k ∧ k ≤ l.length ∧
  st = ⟨23, 0, [(2, .c (.own 0 0)), (3, .c (.own 1 0)), (8, enS l), (9, vci .i64 (l.length : Int)), (10, vci .i64 (k : Int))], [some (.cells 97 [.v (.slice none 0 0), vi 0]), some (.cells 97 [.sl 4 l.length (enR l), vi (shn (l.take k) : Int)])]⟩
theorem pack_c (l : List En) (hl : l.length ≤ 100000000) : CallV Try.prog 58 [enS l] [] (fun r own' => own' = [] ∧ r = .agg (chF l)) := by
  refine callV_pure Try.func58 rfl ttok ftok rfl rfl rfl (Nat.le_of_ble_eq_true rfl) ?_
  conv => whnf
  refine loopV ttok ftok (pkI l) (norm_weak [2, 3, 8, 9, 10] [some 0, some 1] rfl rfl) ⟨0, rfl, Nat.zero_le _, rfl⟩ ?_
  rintro n st ⟨k, rfl, hk, rfl⟩
  have e1 := e64 (k := k) (by omega)
  conv => whnf
  refine onB_intro (fun h => ?_) (fun h => ?_)
  · have h := of_decide_eq_true h
    have hkl : k < l.length := by omega
    have hs := shn_snoc (l.take k) (l.getD k en0)
    rw [← take_snocE hkl] at hs
    have hsl := shn_len (l.take k)
    rw [List.length_take] at hsl
    conv => whnf
    refine ⟨⟨by omega, by omega⟩, ?_⟩
    conv => whnf
    rw [ti_nat]
    cases hg : (l.getD k en0).gone with
    | true =>
      rw [hg, if_pos rfl, Nat.add_zero] at hs
      conv => whnf
      rw [e1]
      refine ⟨l.length - (k + 1), _, by omega, norm_weak [2, 3, 8, 9, 10] [some 0, some 1] rfl rfl, k + 1, rfl, by omega, ?_⟩
      rw [hs]
      all_goals rfl
    | false =>
      rw [hg, if_neg (by decide)] at hs
      conv => whnf
      rw [e1, e64 (by omega), ← hs]
      refine ⟨l.length - (k + 1), _, by omega, norm_weak [2, 3, 8, 9, 10] [some 0, some 1] rfl rfl, k + 1, rfl, by omega, rfl⟩
  · have h := of_decide_eq_false h
    have hk2 : k = l.length := by omega
    subst hk2
    rw [List.take_length]
    conv => whnf
    all_goals first | rfl | exact ⟨rfl, rfl⟩
theorem take_snocC {cs : Ck} {k : Nat} (h : k < cs.length) : cs.take (k + 1) = cs.take k ++ [cs.getD k []] := by
  rw [List.take_add_one, List.getD_eq_getElem?_getD, List.getElem?_eq_getElem h]; rfl
theorem sumL_le (cs : Ck) (k : Nat) : sumL (cs.take k) ≤ sumL cs := by
  conv => rhs; rw [← List.take_append_drop k cs]
  rw [sumL_append]; omega
theorem shnC_le (cs : Ck) : shnC cs ≤ sumL cs := shn_len _
theorem sumL_at {cs : Ck} {k : Nat} (h : k < cs.length) : sumL (cs.take (k + 1)) = sumL (cs.take k) + (cs.getD k []).length := by
  rw [take_snocC h, sumL_append]; simp [sumL]
theorem shnC_at {cs : Ck} {k : Nat} (h : k < cs.length) : shnC (cs.take (k + 1)) = shnC (cs.take k) + shn (cs.getD k []) := by
  rw [take_snocC h, shnC_append]; simp [shnC]
def wiI (cs : Ck) (n : Nat) (st : St) : Prop := ∃ k : Nat, n = cs.length - k ∧ k ≤ cs.length ∧
  st = ⟨29, 0, [(2, .c (.own 0 0)), (3, .c (.own 1 0)), (8, chS cs), (9, vci .i64 (cs.length : Int)), (10, vci .i64 (k : Int))], [some (.cells 32 [.v (.slice none 0 0), vi 0, vi 0]), some (.cells 32 [.sl 2 cs.length (chR cs), vi (sumL (cs.take k) : Int), vi (shnC (cs.take k) : Int)])]⟩
theorem with_c (cs : Ck) (hl : cs.length ≤ 100000000) (hs : sumL cs ≤ 100000000) : CallV Try.prog 61 [chS cs] [] (fun r own' => own' = [] ∧ r = ixA cs) := by
  refine callV_pure Try.func61 rfl ttok ftok rfl rfl rfl (Nat.le_of_ble_eq_true rfl) ?_
  conv => whnf
  refine loopV ttok ftok (wiI cs) (norm_weak [2, 3, 8, 9, 10] [some 0, some 1] rfl rfl) ⟨0, rfl, Nat.zero_le _, rfl⟩ ?_
  rintro n st ⟨k, rfl, hk, rfl⟩
  have e1 := e64 (k := k) (by omega)
  conv => whnf
  refine onB_intro (fun h => ?_) (fun h => ?_)
  · have h := of_decide_eq_true h
    have hkl : k < cs.length := by omega
    have s1 := sumL_at hkl
    have s2 := shnC_at hkl
    have s3 := sumL_le cs (k + 1)
    have s4 := shnC_le (cs.take (k + 1))
    conv => whnf
    refine ⟨⟨by omega, by omega⟩, ?_⟩
    conv => whnf
    rw [ti_nat]
    rw [e1, show IntKind.i64.wrap ((sumL (cs.take k) : Int) + ((cs.getD k []).length : Int)) = (sumL (cs.take (k + 1)) : Int) from by rw [w_i64 (by omega) (by omega)]; omega]
    rw [show IntKind.i64.wrap ((shnC (cs.take k) : Int) + (shn (cs.getD k []) : Int)) = (shnC (cs.take (k + 1)) : Int) from by rw [w_i64 (by omega) (by omega)]; omega]
    exact ⟨cs.length - (k + 1), _, by omega, norm_weak [2, 3, 8, 9, 10] [some 0, some 1] rfl rfl, k + 1, rfl, by omega, rfl⟩
  · have h := of_decide_eq_false h
    have hk2 : k = cs.length := by omega
    subst hk2
    rw [List.take_length]
    conv => whnf
    all_goals first | rfl | exact ⟨rfl, rfl⟩
theorem len_c (cs : Ck) : CallV Try.prog 19 [ixA cs] [] (fun r own' => own' = [] ∧ r = vci .i64 (sumL cs : Int)) := by
  refine callV_pure Try.func19 rfl ttok ftok rfl rfl rfl (Nat.le_of_ble_eq_true rfl) ?_
  conv => whnf
  all_goals first | rfl | exact ⟨rfl, rfl⟩
theorem shown_c (cs : Ck) : CallV Try.prog 24 [ixA cs] [] (fun r own' => own' = [] ∧ r = vci .i64 (shnC cs : Int)) := by
  refine callV_pure Try.func24 rfl ttok ftok rfl rfl rfl (Nat.le_of_ble_eq_true rfl) ?_
  conv => whnf
  all_goals first | rfl | exact ⟨rfl, rfl⟩
def alI (cs : Ck) (n : Nat) (st : St) : Prop := ∃ k : Nat, n = cs.length - k ∧ k ≤ cs.length ∧
  st = ⟨19, 0, [(3, .c (.row 0)), (7, chS cs), (8, vci .i64 (cs.length : Int)), (9, vci .i64 (k : Int))], [some (.row 41 4 (cs.take k).flatten.length (enR (cs.take k).flatten))]⟩
theorem all_c (cs : Ck) (hl : cs.length ≤ 1000000) (hs : sumL cs ≤ 1000000) : CallV Try.prog 64 [ixA cs] [] (fun r own' => own' = [] ∧ r = enS cs.flatten) := by
  refine callV_pure Try.func64 rfl ttok ftok rfl rfl rfl (Nat.le_of_ble_eq_true rfl) ?_
  conv => whnf
  refine loopV ttok ftok (alI cs) ((nil_row 3 41 4 (enR []) rfl).trans (norm_weak [3, 7, 8, 9] [some 1] rfl rfl)) ⟨0, rfl, Nat.zero_le _, rfl⟩ ?_
  rintro n st ⟨k, rfl, hk, rfl⟩
  have e1 := e64 (k := k) (by omega)
  conv => whnf
  refine onB_intro (fun h => ?_) (fun h => ?_)
  · have h := of_decide_eq_true h
    have hkl : k < cs.length := by omega
    have s1 := sumL_at hkl
    have s3 := sumL_le cs (k + 1)
    have hf : (cs.take (k + 1)).flatten = (cs.take k).flatten ++ cs.getD k [] := by rw [take_snocC hkl]; simp
    unfold sumL at s1 s3 hs
    conv => whnf
    refine ⟨⟨by omega, by omega⟩, ?_⟩
    conv => whnf
    rw [ti_nat]
    refine ⟨⟨by omega, by show ((cs.take k).flatten.length + (cs.getD k []).length) * 16 ≤ _; omega⟩, ?_⟩
    conv => whnf
    refine app_list (enc := enF) (d := en0) (l := (cs.take k).flatten) (b := cs.getD k []) (fun k hk => rfl) (fun k hk => rfl) ?_
    conv => whnf
    rw [e1, ← hf]

    exact ⟨cs.length - (k + 1), _, by omega, norm_weak [3, 7, 8, 9] [some 2] rfl rfl, k + 1, rfl, by omega, rfl⟩
  · have h := of_decide_eq_false h
    have hk2 : k = cs.length := by omega
    subst hk2
    rw [List.take_length]
    conv => whnf
    refine ⟨fun _ _ => rfl, ?_⟩
    conv => whnf
    all_goals first | rfl | exact ⟨rfl, rfl⟩
end Go.Eng
/- An index: where an Id is. -/
set_option linter.unusedVariables false
set_option linter.unusedSimpArgs false
set_option maxRecDepth 100000
set_option maxHeartbeats 4000000
namespace Go.Eng
open Go Go.RowKit Go.Proofs
/-- slices.IndexFunc. -/
def enIndexCI (O : List (Option Ob)) (l : List En) (p : En → Bool) (caps : List (Bool × List IC)) (n : Nat) (st : St) : Prop := ∃ k : Nat, n = l.length - k ∧ k ≤ l.length ∧ (∀ j, j < k → p (l.getD j en0) = false) ∧
  st = ⟨19, O.length, [(0, .c (.sl 4 l.length fun k => enF (l.getD k en0))), (1, .c (.fn 98 caps)), (7, vci .i64 l.length), (8, vci .i64 (k : Int))], O⟩
theorem enIndexC (O : List (Option Ob)) (l : List En) (hl : l.length ≤ 1000000000) (caps : List (Bool × List IC)) (p : En → Bool)
    (hp : ∀ k, k < l.length → CallV Try.prog 98 (.agg (enF (l.getD k en0)) :: capsA caps) O (fun r own' => r = vcb (p (l.getD k en0)) ∧ own' = O)) :
    CallV Try.prog 97 [.c (.sl 4 l.length fun k => enF (l.getD k en0)), .c (.fn 98 caps)] O (fun r own' => (∃ k : Nat, k < l.length ∧ p (l.getD k en0) = true ∧ (∀ j, j < k → p (l.getD j en0) = false) ∧ r = vci .i64 k ∧ own' = O) ∨
      ((∀ j, j < l.length → p (l.getD j en0) = false) ∧ r = vci .i64 (-1) ∧ own' = O)) := by
  refine callV_same Try.func97 rfl ttok ftok rfl rfl rfl (Nat.le_of_ble_eq_true rfl) ?_
  conv => whnf
  refine loopV ttok ftok (enIndexCI O l p caps) (env_weak [0, 1, 7, 8] rfl) ⟨0, rfl, Nat.zero_le _, fun j hj => by omega, rfl⟩ ?_
  rintro n st ⟨k, rfl, hk, hj, rfl⟩
  conv => whnf
  refine onB_intro (fun h => ?_) (fun h => ?_)
  · have h := of_decide_eq_true h
    have hkl : k < l.length := by omega
    conv => whnf
    rw [forceL_eq]
    conv => whnf
    refine ⟨⟨by omega, by omega⟩, ?_⟩
    conv => whnf
    refine (hp k hkl).mono ?_
    rintro r own2 ⟨rfl, rfl⟩
    conv => whnf
    cases hpk : p (l.getD k en0) with
    | true =>
      conv => whnf
      refine ⟨_, Weak.refl _, ?_⟩
      conv => whnf
      exact .inl ⟨k, hkl, hpk, hj, rfl, rfl⟩
    | false =>
      conv => whnf
      refine ⟨l.length - (k + 1), _, by omega, env_weak [0, 1, 7, 8] rfl, k + 1, rfl, by omega, fun j hj2 => ?_, ?_⟩
      · rcases Nat.lt_succ_iff_lt_or_eq.1 hj2 with h2 | rfl
        · exact hj j h2
        · exact hpk
      rw [show (((k + 1 : Nat)) : Int) = IntKind.i64.wrap ((k : Int) + 1) from by rw [w_i64 (by omega) (by omega)]; omega]
      all_goals rfl
  · have h := of_decide_eq_false h
    conv => whnf
    refine ⟨_, Weak.refl _, ?_⟩
    conv => whnf
    exact .inr ⟨fun j hj2 => hj j (by omega), rfl, rfl⟩
theorem id_beq (x a : I2) : (x.1 == a.1 && (x.2 == a.2 && true)) = (x == a) := by
  rw [Bool.and_true, Bool.eq_iff_iff, Bool.and_eq_true, beq_iff_eq, beq_iff_eq, beq_iff_eq]
  exact ⟨fun e => Prod.ext e.1 e.2, fun e => by rw [e]; exact ⟨rfl, rfl⟩⟩
theorem pl1_c (a : I2) (e : En) : CallV Try.prog 98 [.agg (enF e), .c (.own 0 0)] [some (.cells 39 (idF a))] (fun r own' => r = vcb (e.id == a) ∧ own' = [some (.cells 39 (idF a))]) := by
  refine callV_own Try.func98 rfl ttok ftok rfl rfl rfl (Nat.le_of_ble_eq_true rfl) rfl ?_
  conv => whnf
  refine ⟨_, Weak.refl _, ?_⟩
  conv => whnf
  refine ⟨[some 0], rfl, rfl, ?_, rfl⟩
  show vcb _ = _
  rw [← id_beq]
theorem findE_some {l : List En} {p : En → Bool} {k : Nat} (hk : k < l.length) (h1 : p (l.getD k en0) = true) (h2 : ∀ j, j < k → p (l.getD j en0) = false) : l.findIdx? p = some k := by
  have hg : ∀ j (hj : j < l.length), l.getD j en0 = l[j] := fun j hj => by rw [List.getD_eq_getElem?_getD, List.getElem?_eq_getElem hj]; rfl
  rw [List.findIdx?_eq_some_iff_getElem]
  refine ⟨hk, by rw [← hg k hk]; exact h1, fun j hj => ?_⟩
  have := h2 j hj
  rw [hg j (by omega)] at this
  simp [this]
theorem findE_none {l : List En} {p : En → Bool} (h : ∀ j, j < l.length → p (l.getD j en0) = false) : l.findIdx? p = none := by
  rw [List.findIdx?_eq_none_iff]
  intro x hx
  obtain ⟨j, hj, rfl⟩ := List.getElem_of_mem hx
  have := h j hj
  rwa [List.getD_eq_getElem?_getD, List.getElem?_eq_getElem hj] at this
theorem plcC_hit : ∀ {cs : Ck} {a : I2} {k q : Nat}, (∀ j, j < k → (cs.getD j []).findIdx? (fun e => e.id == a) = none) → k < cs.length → (cs.getD k []).findIdx? (fun e => e.id == a) = some q → plcC cs a = some (k, q)
  | [], a, k, q, _, h, _ => by simp at h
  | c :: cs, a, 0, q, _, _, h => by
    have h : c.findIdx? (fun e => e.id == a) = some q := h
    rw [plcC_cons, h]
  | c :: cs, a, k + 1, q, hj, hk, h => by
    have h0 : c.findIdx? (fun e => e.id == a) = none := hj 0 (by omega)
    have := plcC_hit (cs := cs) (a := a) (k := k) (q := q) (fun j hj2 => by have := hj (j + 1) (by omega); simpa using this) (by simpa using hk) (by simpa using h)
    rw [plcC_cons, h0, this]
    rfl
theorem plcC_miss : ∀ {cs : Ck} {a : I2}, (∀ j, j < cs.length → (cs.getD j []).findIdx? (fun e => e.id == a) = none) → plcC cs a = none
  | [], a, _ => rfl
  | c :: cs, a, hj => by
    have h0 : c.findIdx? (fun e => e.id == a) = none := hj 0 (by simp)
    have := plcC_miss (cs := cs) (a := a) (fun j hj2 => by have := hj (j + 1) (by simp; omega); simpa using this)
    rw [plcC_cons, h0, this]
    rfl
def plI (cs : Ck) (a : I2) (n : Nat) (st : St) : Prop := ∃ k : Nat, n = cs.length - k ∧ k ≤ cs.length ∧ (∀ j, j < k → (cs.getD j []).findIdx? (fun e => e.id == a) = none) ∧
  st = ⟨27, 0, [(3, .c (.own 0 0)), (11, chS cs), (12, vci .i64 (cs.length : Int)), (13, vci .i64 (k : Int))], [some (.cells 39 (idF a))]⟩
def plV (o : Option (Nat × Nat)) : AV := match o with
  | some (i, k) => .tup [vci .i64 (i : Int), vci .i64 (k : Int), vcb true]
  | none => .tup [vci .i64 0, vci .i64 0, vcb false]
theorem place_c (cs : Ck) (hl : cs.length ≤ 1000000) (hs : sumL cs ≤ 1000000) (a : I2) : CallV Try.prog 59 [ixA cs, idA a] [] (fun r own' => own' = [] ∧ r = plV (plcC cs a)) := by
  refine callV_pure Try.func59 rfl ttok ftok rfl rfl rfl (Nat.le_of_ble_eq_true rfl) ?_
  conv => whnf
  refine loopV ttok ftok (plI cs a) (norm_weak [3, 11, 12, 13] [some 1] rfl rfl) ⟨0, rfl, Nat.zero_le _, fun j hj => by omega, rfl⟩ ?_
  rintro n st ⟨k, rfl, hk, hj, rfl⟩
  have e1 := e64 (k := k) (by omega)
  conv => whnf
  refine onB_intro (fun h => ?_) (fun h => ?_)
  · have h := of_decide_eq_true h
    have hkl : k < cs.length := by omega
    have s1 := sumL_at hkl
    have s3 := sumL_le cs (k + 1)
    conv => whnf
    refine ⟨⟨by omega, by omega⟩, ?_⟩
    conv => whnf
    rw [ti_nat]
    refine (enIndexC _ (cs.getD k []) (by omega) [(false, [.own 0 0])] (fun e => e.id == a) (fun q hq => ?_)).mono ?_
    · refine call_frame2 [some 0] rfl rfl rfl rfl (pl1_c a _) ?_
      rintro r own2 ⟨rfl, rfl⟩
      exact ⟨_, _, rfl, rfl, rfl, rfl⟩
    rintro r own2 (⟨q, hq, h1, h2, rfl, rfl⟩ | ⟨h1, rfl, rfl⟩)
    · have hp := plcC_hit hj hkl (findE_some hq h1 h2)
      conv => whnf
      rw [hp]
      all_goals first | rfl | exact ⟨rfl, rfl⟩
    · conv => whnf
      rw [e1]
      refine ⟨cs.length - (k + 1), _, by omega, norm_weak [3, 11, 12, 13] [some 0] rfl rfl, k + 1, rfl, by omega, fun j h2 => ?_, rfl⟩
      rcases Nat.lt_succ_iff_lt_or_eq.1 h2 with h3 | rfl
      · exact hj j h3
      · exact findE_none h1
  · have h := of_decide_eq_false h
    conv => whnf
    rw [plcC_miss (fun j hj2 => hj j (by omega))]
    all_goals first | rfl | exact ⟨rfl, rfl⟩
end Go.Eng
/- An index: where an Id's entry is; the entry at a place; where those are that are shown. -/
set_option linter.unusedVariables false
set_option linter.unusedSimpArgs false
set_option maxRecDepth 100000
set_option maxHeartbeats 4000000
namespace Go.Eng
open Go Go.RowKit Go.Proofs
abbrev erC (k : Int) : AV := .c (.v (.iface 95 (.int .i64 k)))
def fnV (o : Option Nat) : AV := match o with
  | some n => .tup [vci .i64 (n : Int), vcb true]
  | none => .tup [vci .i64 0, vcb false]
def fnE (l : List En) (a : I2) : Option Nat := l.findIdx? (fun e => e.id == a)
def fnI (cs : Ck) (i k : Nat) (n : Nat) (st : St) : Prop := ∃ j : Nat, n = i - j ∧ j ≤ i ∧
  st = ⟨36, 0, [(7, vci .i64 ((k + sumL (cs.take j) : Nat) : Int)), (23, .c (.sl 2 i (chR cs))), (24, vci .i64 (i : Int)), (25, vci .i64 (j : Int))], []⟩
theorem find_c (cs : Ck) (hl : cs.length ≤ 1000000) (hs : sumL cs ≤ 1000000) (a : I2) : CallV Try.prog 22 [ixA cs, idA a] [] (fun r own' => own' = [] ∧ r = fnV (fnE cs.flatten a)) := by
  have hpf : (plcC cs a).map (fun p => sumL (cs.take p.1) + p.2) = fnE cs.flatten a := plcC_find cs a
  refine callV_pure Try.func22 rfl ttok ftok rfl rfl rfl (Nat.le_of_ble_eq_true rfl) ?_
  conv => whnf
  refine call_pure (place_c cs hl hs a) rfl ?_
  rintro _ rfl
  cases hp : plcC cs a with
  | none =>
    rw [hp] at hpf
    rw [← hpf]
    conv => whnf
    all_goals first | rfl | exact ⟨rfl, rfl⟩
  | some p =>
  obtain ⟨i, k⟩ := p
  rw [hp] at hpf
  rw [← hpf]
  obtain ⟨hi, hk⟩ := plcC_lt hp
  have s3 := sumL_le cs (i + 1)
  have s4 := sumL_at hi
  conv => whnf
  refine ⟨⟨by omega, by omega, by omega, by omega⟩, ?_⟩
  refine ⟨i, chR cs, by rw [ti_nat]; rfl, fun q hq => by show chF _ = chF (cs.getD (Int.toNat 0 + q) []); rw [show Int.toNat 0 + q = q from Nat.zero_add q], ?_⟩
  conv => whnf
  refine loopV ttok ftok (fnI cs i k) (norm_weak [7, 23, 24, 25] [] rfl rfl) ⟨0, rfl, Nat.zero_le _, rfl⟩ ?_
  rintro n st ⟨j, rfl, hj, rfl⟩
  have e1 := e64 (k := j) (by omega)
  conv => whnf
  refine onB_intro (fun h => ?_) (fun h => ?_)
  · have h := of_decide_eq_true h
    have s5 := sumL_at (show j < cs.length by omega)
    have s6 := sumL_le cs (j + 1)
    conv => whnf
    refine ⟨⟨by omega, by omega⟩, ?_⟩
    conv => whnf
    rw [ti_nat, e1, show IntKind.i64.wrap (((k + sumL (cs.take j) : Nat) : Int) + ((cs.getD j []).length : Int)) = ((k + sumL (cs.take (j + 1)) : Nat) : Int) from by rw [w_i64 (by omega) (by omega)]; omega]
    exact ⟨i - (j + 1), _, by omega, norm_weak [7, 23, 24, 25] [] rfl rfl, j + 1, rfl, by omega, rfl⟩
  · have h := of_decide_eq_false h
    obtain rfl : j = i := by omega
    conv => whnf
    rw [Nat.add_comm k]
    all_goals first | rfl | exact ⟨rfl, rfl⟩
def enV (l : List En) (n : Int) : AV := if 0 ≤ n ∧ n < l.length then .tup [.agg (enF (l.getD n.toNat en0)), .c (.v .nilIface)] else .tup [.agg (enF en0), erC 3]
def eyI (cs : Ck) (N : Nat) (n : Nat) (st : St) : Prop := ∃ j : Nat, n = cs.length - j ∧ j ≤ cs.length ∧ sumL (cs.take j) ≤ N ∧
  st = ⟨43, 0, [(1, vci .i64 ((N - sumL (cs.take j) : Nat) : Int)), (4, .c (.own 0 0)), (19, chS cs), (20, vci .i64 (cs.length : Int)), (21, vci .i64 (j : Int))], [some (.cells 41 (enF en0))]⟩
theorem flat_getD {cs : Ck} {j q : Nat} (hj : j < cs.length) (hq : q < (cs.getD j []).length) : cs.flatten.getD (sumL (cs.take j) + q) en0 = (cs.getD j []).getD q en0 := by
  have g : cs = cs.take j ++ (cs.getD j [] :: cs.drop (j + 1)) := by
    rw [List.getD_eq_getElem?_getD, List.getElem?_eq_getElem hj]
    exact (List.take_append_drop j cs).symm.trans (by rw [List.drop_eq_getElem_cons hj]; rfl)
  have f : cs.flatten = (cs.take j).flatten ++ (cs.getD j [] ++ (cs.drop (j + 1)).flatten) := by
    conv => lhs; rw [g]
    rw [List.flatten_append, List.flatten_cons]
  rw [f]
  unfold sumL
  rw [List.getD_eq_getElem?_getD, List.getElem?_append_right (Nat.le_add_right _ _), Nat.add_sub_cancel_left, List.getElem?_append_left hq, ← List.getD_eq_getElem?_getD]
theorem entry_c (cs : Ck) (hl : cs.length ≤ 1000000) (hs : sumL cs ≤ 1000000) (n : Int) : CallV Try.prog 23 [ixA cs, vci .i64 n] [] (fun r own' => own' = [] ∧ r = enV cs.flatten n) := by
  have hfl : cs.flatten.length = sumL cs := rfl
  refine callV_pure Try.func23 rfl ttok ftok rfl rfl rfl (Nat.le_of_ble_eq_true rfl) ?_
  conv => whnf
  refine onB_intro (fun h => ?_) (fun h => ?_)
  · have h : ¬ (0 ≤ n ∧ n < cs.flatten.length) := by
      rw [hfl]
      simp only [pickB, isLit, Bool.or_eq_true, decide_eq_true_eq] at h
      omega
    conv => whnf
    rw [show enV cs.flatten n = .tup [.agg (enF en0), erC 3] from if_neg h]
    all_goals first | rfl | exact ⟨rfl, rfl⟩
  have h : 0 ≤ n ∧ n < cs.flatten.length := by
    rw [hfl]
    simp only [pickB, isLit, Bool.or_eq_false_iff, decide_eq_false_iff_not] at h
    omega
  rw [show enV cs.flatten n = .tup [.agg (enF (cs.flatten.getD n.toNat en0)), .c (.v .nilIface)] from if_pos h]
  obtain ⟨N, rfl⟩ : ∃ N : Nat, n = (N : Int) := ⟨n.toNat, (Int.toNat_of_nonneg h.1).symm⟩
  rw [ti_nat]
  have hN : N < sumL cs := by rw [← hfl]; omega
  conv => whnf
  refine loopV ttok ftok (eyI cs N) (norm_weak [1, 4, 19, 20, 21] [some 1] rfl rfl) ⟨0, rfl, Nat.zero_le _, by simp [sumL], rfl⟩ ?_
  rintro m st ⟨j, rfl, hj, hjN, rfl⟩
  have e1 := e64 (k := j) (by omega)
  conv => whnf
  refine onB_intro (fun h => ?_) (fun h => ?_)
  · have h := of_decide_eq_true h
    have hjl : j < cs.length := by omega
    have s5 := sumL_at hjl
    have s6 := sumL_le cs (j + 1)
    conv => whnf
    refine ⟨⟨by omega, by omega⟩, ?_⟩
    conv => whnf
    rw [ti_nat]
    refine onB_intro (fun g => ?_) (fun g => ?_)
    · have g := of_decide_eq_true g
      have hfg := flat_getD hjl (q := N - sumL (cs.take j)) (by omega)
      rw [show sumL (cs.take j) + (N - sumL (cs.take j)) = N by omega] at hfg
      conv => whnf
      refine ⟨⟨by omega, by omega⟩, ?_⟩
      conv => whnf
      rw [ti_nat, hfg]
      all_goals first | rfl | exact ⟨rfl, rfl⟩
    · have g := of_decide_eq_false g
      conv => whnf
      rw [e1, show IntKind.i64.wrap (((N - sumL (cs.take j) : Nat) : Int) - ((cs.getD j []).length : Int)) = ((N - sumL (cs.take (j + 1)) : Nat) : Int) from by rw [w_i64 (by omega) (by omega)]; omega]
      exact ⟨cs.length - (j + 1), _, by omega, norm_weak [1, 4, 19, 20, 21] [some 0] rfl rfl, j + 1, rfl, by omega, by omega, rfl⟩
  · have h := of_decide_eq_false h
    obtain rfl : j = cs.length := by omega
    rw [List.take_length] at hjN
    omega
end Go.Eng
/- An index: where those are that are shown. -/
set_option linter.unusedVariables false
set_option linter.unusedSimpArgs false
set_option maxRecDepth 100000
set_option maxHeartbeats 4000000
namespace Go.Eng
open Go Go.RowKit Go.Proofs
def atV (l : List En) (k : Int) : AV := if 0 ≤ k ∧ k < shn l then .tup [vci .i64 (((shp l 0).getD k.toNat 0 : Nat) : Int), .c (.v .nilIface)] else .tup [vci .i64 0, erC 3]
theorem shp_drop {l : List En} {j : Nat} (hj : j ≤ l.length) (n : Nat) : shp l n = shp (l.take j) n ++ shp (l.drop j) (n + j) := by
  conv => lhs; rw [← List.take_append_drop j l]
  rw [shp_append, List.length_take, Nat.min_eq_left hj]
theorem shp_at {cs : Ck} {i : Nat} (hi : i < cs.length) {K : Nat} (h1 : shnC (cs.take i) ≤ K) (h2 : K < shnC (cs.take i) + shn (cs.getD i [])) : (shp cs.flatten 0).getD K 0 = (shp (cs.getD i []) (sumL (cs.take i))).getD (K - shnC (cs.take i)) 0 := by
  have g : cs = cs.take i ++ (cs.getD i [] :: cs.drop (i + 1)) := by
    rw [List.getD_eq_getElem?_getD, List.getElem?_eq_getElem hi]
    exact (List.take_append_drop i cs).symm.trans (by rw [List.drop_eq_getElem_cons hi]; rfl)
  have f : cs.flatten = (cs.take i).flatten ++ (cs.getD i [] ++ (cs.drop (i + 1)).flatten) := by
    conv => lhs; rw [g]
    rw [List.flatten_append, List.flatten_cons]
  have e1 : (shp (cs.take i).flatten 0).length = shnC (cs.take i) := shp_len _ _
  have e2 := shp_len (cs.getD i []) (sumL (cs.take i))
  rw [f, shp_append, shp_append, Nat.zero_add]
  show (shp (cs.take i).flatten 0 ++ (shp (cs.getD i []) (sumL (cs.take i)) ++ _)).getD K 0 = _
  rw [List.getD_eq_getElem?_getD, List.getElem?_append_right (by omega), e1, List.getElem?_append_left (by omega), ← List.getD_eq_getElem?_getD]
def aoI (cs : Ck) (K : Nat) (n : Nat) (st : St) : Prop := ∃ i : Nat, n = cs.length - i ∧ i ≤ cs.length ∧ shnC (cs.take i) ≤ K ∧
  st = ⟨60, 0, [(1, vci .i64 ((K - shnC (cs.take i) : Nat) : Int)), (6, vci .i64 (sumL (cs.take i) : Int)), (21, chS cs), (22, vci .i64 (cs.length : Int)), (23, vci .i64 (i : Int))], []⟩
def aiI (c : List En) (A R : Nat) (n : Nat) (st : St) : Prop := ∃ j k : Nat, n = c.length - j ∧ j ≤ c.length ∧ k < shn (c.drop j) ∧ (shp (c.drop j) (A + j)).getD k 0 = R ∧
  st = ⟨60, 0, [(1, vci .i64 (k : Int)), (6, vci .i64 ((A + j : Nat) : Int)), (41, enS c), (42, vci .i64 (c.length : Int)), (43, vci .i64 (j : Int))], []⟩
theorem at_c (cs : Ck) (hl : cs.length ≤ 1000000) (hs : sumL cs ≤ 1000000) (k : Int) : CallV Try.prog 25 [ixA cs, vci .i64 k] [] (fun r own' => own' = [] ∧ r = atV cs.flatten k) := by
  have hfl : shn cs.flatten = shnC cs := rfl
  have hsl := shnC_le cs
  refine callV_pure Try.func25 rfl ttok ftok rfl rfl rfl (Nat.le_of_ble_eq_true rfl) ?_
  conv => whnf
  refine onB_intro (fun h => ?_) (fun h => ?_)
  · have h : ¬ (0 ≤ k ∧ k < shn cs.flatten) := by
      rw [hfl]
      simp only [pickB, isLit, Bool.or_eq_true, decide_eq_true_eq] at h
      omega
    conv => whnf
    rw [show atV cs.flatten k = .tup [vci .i64 0, erC 3] from if_neg h]
    all_goals first | rfl | exact ⟨rfl, rfl⟩
  have h : 0 ≤ k ∧ k < shn cs.flatten := by
    rw [hfl]
    simp only [pickB, isLit, Bool.or_eq_false_iff, decide_eq_false_iff_not] at h
    omega
  rw [show atV cs.flatten k = .tup [vci .i64 (((shp cs.flatten 0).getD k.toNat 0 : Nat) : Int), .c (.v .nilIface)] from if_pos h]
  obtain ⟨K, rfl⟩ : ∃ K : Nat, k = (K : Int) := ⟨k.toNat, (Int.toNat_of_nonneg h.1).symm⟩
  rw [ti_nat]
  have hK : K < shnC cs := by rw [← hfl]; omega
  obtain ⟨R, hR⟩ : ∃ R, (shp cs.flatten 0).getD K 0 = R := ⟨_, rfl⟩
  rw [hR]
  conv => whnf
  refine loopV ttok ftok (aoI cs K) (norm_weak [1, 6, 21, 22, 23] [] rfl rfl) ⟨0, rfl, Nat.zero_le _, by simp [shnC, shn], rfl⟩ ?_
  rintro m st ⟨i, rfl, hi, hiK, rfl⟩
  have e1 := e64 (k := i) (by omega)
  conv => whnf
  refine onB_intro (fun h => ?_) (fun h => ?_)
  · have h := of_decide_eq_true h
    have hil : i < cs.length := by omega
    have s5 := sumL_at hil
    have s6 := sumL_le cs (i + 1)
    have s7 := shnC_at hil
    conv => whnf
    refine ⟨⟨by omega, by omega⟩, ?_⟩
    conv => whnf
    rw [ti_nat]
    refine onB_intro (fun g => ?_) (fun g => ?_)
    · have g := of_decide_eq_true g
      conv => whnf
      rw [e1, show IntKind.i64.wrap (((K - shnC (cs.take i) : Nat) : Int) - (shn (cs.getD i []) : Int)) = ((K - shnC (cs.take (i + 1)) : Nat) : Int) from by rw [w_i64 (by omega) (by omega)]; omega]
      rw [show IntKind.i64.wrap ((sumL (cs.take i) : Int) + ((cs.getD i []).length : Int)) = (sumL (cs.take (i + 1)) : Int) from by rw [w_i64 (by omega) (by omega)]; omega]
      exact ⟨cs.length - (i + 1), _, by omega, norm_weak [1, 6, 21, 22, 23] [] rfl rfl, i + 1, rfl, by omega, by omega, rfl⟩
    · have g := of_decide_eq_false g
      have hat := shp_at hil hiK (by omega)
      rw [hR] at hat
      generalize hc : cs.getD i [] = c at *
      generalize hA : sumL (cs.take i) = A at *
      conv => whnf
      refine loopV ttok ftok (aiI c A R) (norm_weak [1, 6, 41, 42, 43] [] rfl rfl) ⟨0, K - shnC (cs.take i), rfl, Nat.zero_le _, by rw [List.drop_zero]; omega, by rw [List.drop_zero]; exact hat.symm, rfl⟩ ?_
      rintro m st ⟨j, k, rfl, hj, hk, hkR, rfl⟩
      have e2 := e64 (k := j) (by omega)
      conv => whnf
      refine onB_intro (fun h => ?_) (fun h => ?_)
      · have h := of_decide_eq_true h
        have hjl : j < c.length := by omega
        have hd : c.drop j = c.getD j en0 :: c.drop (j + 1) := by
          rw [List.drop_eq_getElem_cons hjl, List.getD_eq_getElem?_getD, List.getElem?_eq_getElem hjl]; rfl
        rw [hd] at hk hkR
        rw [shp] at hkR
        have hsc : shn (c.getD j en0 :: c.drop (j + 1)) = shn (c.drop (j + 1)) + if (c.getD j en0).gone = true then 0 else 1 := by
          unfold shn
          rw [List.countP_cons]
          cases (c.getD j en0).gone <;> simp
        rw [hsc] at hk
        have hsl2 := shn_len (c.drop (j + 1))
        rw [List.length_drop] at hsl2
        have hcl : c.length ≤ 1000000 := by omega
        conv => whnf
        refine ⟨⟨by omega, by omega⟩, ?_⟩
        conv => whnf
        rw [ti_nat]
        cases hg : (c.getD j en0).gone with
        | true =>
          rw [hg, if_pos rfl] at hk hkR
          conv => whnf
          rw [e2, e64 (by omega)]
          exact ⟨c.length - (j + 1), _, by omega, norm_weak [1, 6, 41, 42, 43] [] rfl rfl, j + 1, k, rfl, by omega, by omega, hkR, rfl⟩
        | false =>
          rw [hg, if_neg (by decide)] at hk hkR
          conv => whnf
          by_cases hk0 : k = 0
          · subst hk0
            have hkR : A + j = R := hkR
            conv => whnf
            rw [hkR]
            all_goals first | rfl | exact ⟨rfl, rfl⟩
          · rw [show (((k : Nat) : Int) == 0) = false from beq_eq_false_iff_ne.2 (by omega)]
            obtain ⟨k, rfl⟩ : ∃ q, k = q + 1 := ⟨k - 1, by omega⟩
            conv => whnf
            rw [e2, e64 (by omega), show IntKind.i64.wrap (((k + 1 : Nat) : Int) - 1) = (k : Int) from by rw [w_i64 (by omega) (by omega)]; omega]
            exact ⟨c.length - (j + 1), _, by omega, norm_weak [1, 6, 41, 42, 43] [] rfl rfl, j + 1, k, rfl, by omega, by omega, hkR, rfl⟩
      · have h := of_decide_eq_false h
        obtain rfl : j = c.length := by omega
        rw [List.drop_length] at hk
        simp [shn] at hk
  · have h := of_decide_eq_false h
    obtain rfl : i = cs.length := by omega
    rw [List.take_length] at hiK
    omega
end Go.Eng
/- An index: a chunk gives place to one or two others. -/
set_option linter.unusedVariables false
set_option linter.unusedSimpArgs false
set_option maxRecDepth 100000
set_option maxHeartbeats 4000000
namespace Go.Eng
open Go Go.RowKit Go.Proofs
/-- slices.Clone. -/
theorem chClone (l : List (List En)) (hl : l.length ≤ 1000000000) : CallV Try.prog 96 [.c (.sl 2 l.length fun k => chF (l.getD k []))] []
    (fun r own' => r = .c (.row 0) ∧ own' = [some (.row 97 2 l.length fun k => chF (l.getD k []))]) := by
  refine callV_own Try.func96 rfl ttok ftok rfl rfl rfl (Nat.le_of_ble_eq_true rfl) rfl ?_
  conv => whnf
  intro b hb
  cases b with
  | true =>
    have h0 := hb rfl
    obtain rfl : l = [] := List.eq_nil_of_length_eq_zero h0
    conv => whnf
    refine ⟨_, nil_row 2 97 2 (fun k => chF (([] : List (List En)).getD k [])) rfl, ?_⟩
    conv => whnf
    exact ⟨[some 0], rfl, rfl, rfl, rfl⟩
  | false =>
    clear hb
    conv => whnf
    refine ⟨⟨by omega, by show (0 + l.length) * 32 ≤ _; omega⟩, ?_⟩
    conv => whnf
    refine ⟨l.length, fun k => chF (l.getD k []), by omega, fun k hk => by omega, fun k hk => by rw [Nat.zero_add], ?_⟩
    conv => whnf
    refine ⟨_, Weak.refl _, ?_⟩
    conv => whnf
    exact ⟨[some 1], rfl, rfl, rfl, rfl⟩
def repL (cs : Ck) (i : Nat) (m : Ck) : Ck := cs.take i ++ m ++ cs.drop (i + 1)
theorem repL_len {cs : Ck} {i : Nat} (m : Ck) (hi : i < cs.length) : (repL cs i m).length = cs.length - 1 + m.length := by
  unfold repL; rw [List.length_append, List.length_append, List.length_take, List.length_drop]; omega
theorem repL_get {cs : Ck} {i : Nat} (m : Ck) (hi : i < cs.length) (q : Nat) : (repL cs i m).getD q [] = if q < i then cs.getD q [] else if q < i + m.length then m.getD (q - i) [] else cs.getD (q + 1 - m.length) [] := by
  unfold repL
  have htl : (cs.take i).length = i := by rw [List.length_take]; omega
  split
  · rename_i h
    rw [List.append_assoc, List.getD_eq_getElem?_getD, List.getElem?_append_left (by omega), ← List.getD_eq_getElem?_getD, getD_take _ _ _ _ h]
  · rename_i h
    rw [List.append_assoc, List.getD_eq_getElem?_getD, List.getElem?_append_right (by omega), htl]
    split
    · rename_i h2
      rw [List.getElem?_append_left (by omega), ← List.getD_eq_getElem?_getD]
    · rename_i h2
      rw [List.getElem?_append_right (by omega), ← List.getD_eq_getElem?_getD, getD_drop]
      congr 1
      omega
theorem rep_c (cs : Ck) (i : Nat) (hi : i < cs.length) (hl : cs.length ≤ 1000000) (m : Ck) (hm : 1 ≤ m.length) (hm2 : m.length ≤ 2) : CallV Try.prog 95 [.c (.row 0), vci .i64 i, vci .i64 ((i + 1 : Nat) : Int), chS m] [some (.row 97 2 cs.length (chR cs))]
    (fun r own' => r = .c (.row 2) ∧ own' = [none, none, some (.row 97 2 (repL cs i m).length (chR (repL cs i m)))]) := by
  have hget := repL_get m hi
  have hlen := repL_len m hi
  have hlt : i + (m.length + (cs.length - (i + 1))) = (repL cs i m).length := by omega
  generalize hl' : repL cs i m = L at hget hlen hlt
  refine callV_view 0 rfl (fun h0 => by omega) (fun c hc hc2 => ?_)
  show CallV Try.prog 95 [.c (.view 1 2 0 cs.length c), vci .i64 i, vci .i64 ((i + 1 : Nat) : Int), chS m] [none, some (.arr 97 2 c cs.length (chR cs))] _
  refine callV_own Try.func95 rfl ttok ftok rfl rfl rfl (Nat.le_of_ble_eq_true rfl) rfl ?_
  conv => whnf
  refine ⟨⟨by omega, by omega, by omega, by omega⟩, ?_⟩
  conv => whnf
  rw [show (((i : Nat) : Int) == ((i + 1 : Nat) : Int)) = false from beq_eq_false_iff_ne.2 (by omega)]
  conv => whnf
  refine onB_intro (fun h => ?_) (fun h => ?_)
  · have e : ((i + 1 : Nat) : Int) = cs.length := by simpa using h
    have e : i + 1 = cs.length := by omega
    conv => whnf
    refine ⟨⟨by omega, by omega, by omega, by omega⟩, ?_⟩
    conv => whnf
    refine ⟨trivial, ⟨by omega, by omega⟩, fun h1 => ?_, fun h1 => ?_⟩
    · refine ⟨L.length, chR L, fun q hq => ?_, ?_⟩
      · rcases Nat.lt_or_ge q i with h2 | h2
        · refine .inr ⟨.inl (by omega), by omega, ?_⟩
          show chF (L.getD q []) = chF (cs.getD q [])
          rw [hget, if_pos h2]
        · refine .inl ⟨by omega, by omega, ?_⟩
          show chF (L.getD q []) = chF (m.getD _ [])
          rw [hget, if_neg (by omega), if_pos (by omega)]
          congr 2
          omega
      conv => whnf
      rw [decide_eq_false (by omega)]
      conv => whnf
      refine ⟨_, view_row 8 1 (n := L.length) rfl rfl (by omega) (by omega) (by omega) (by omega), ?_⟩
      conv => whnf
      exact ⟨[none, none, some 2], rfl, rfl, rfl, rfl⟩
    · refine ⟨⟨by omega, by show (((i : Int).toNat - Int.toNat 0) + m.length) * 32 ≤ _; omega⟩, chR L, fun q hq => ?_, fun q hq => ?_, fun cap' hcap => ?_⟩
      · show chF (L.getD q []) = chF (cs.getD _ [])
        rw [hget, if_pos (by omega)]
        congr 2
        omega
      · show chF (L.getD _ []) = chF (m.getD q [])
        rw [hget, if_neg (by omega), if_pos (by omega)]
        congr 2
        omega
      conv => whnf
      rw [decide_eq_false (by omega)]
      conv => whnf
      refine ⟨_, view_row 8 2 (n := L.length) rfl rfl rfl (by omega) (by omega) rfl, ?_⟩
      conv => whnf
      exact ⟨[none, none, some 3], rfl, rfl, rfl, rfl⟩
  have hne : i + 1 < cs.length := by
    have : i + 1 ≠ cs.length := fun e => by rw [e] at h; simp at h
    omega
  clear h
  conv => whnf
  refine drawV_mix 12 mixed (by kernel_rfl) ttok ftok ?_
  conv => whnf
  refine ⟨⟨by omega, by omega, by omega, by omega⟩, ?_⟩
  conv => whnf
  refine ⟨⟨by omega, by omega, by omega, by omega⟩, ?_⟩
  conv => whnf
  rw [show IntKind.i64.wrap (IntKind.i64.wrap ((((i : Int).toNat - Int.toNat 0 : Nat) : Int) + (m.length : Int)) + (((cs.length : Int).toNat - ((i + 1 : Nat) : Int).toNat : Nat) : Int)) = (L.length : Int) from by rw [w_i64 (x := ((((i : Int).toNat - Int.toNat 0 : Nat) : Int) + (m.length : Int))) (by omega) (by omega), w_i64 (by omega) (by omega)]; omega]
  have w3 : IntKind.i64.wrap ((i : Int) + (m.length : Int)) = ((i + m.length : Nat) : Int) := by rw [w_i64 (by omega) (by omega)]; omega
  refine onB_intro (fun h => ?_) (fun h => ?_)
  · have h := of_decide_eq_true h
    conv => whnf
    refine ⟨⟨by omega, by omega, by omega, by omega⟩, ?_⟩
    conv => whnf
    rw [show IntKind.i64.wrap ((L.length : Int) - (i : Int)) = ((L.length - i : Nat) : Int) from by rw [w_i64 (by omega) (by omega)]; omega]
    refine ⟨by omega, ⟨by omega, by omega, by omega, by show _ * (((32 : Nat)) : Int) ≤ _; omega⟩, fun q => if q < i then chF (cs.getD q []) else [.v (.slice none 0 0), vi 0], fun q hq => ?_, fun q hq => ?_, fun cap' hcap => ?_⟩
    · show (if q < i then chF (cs.getD q []) else [.v (.slice none 0 0), vi 0]) = chF (cs.getD _ [])
      rw [if_pos (by omega)]
      congr 2
      omega
    · dsimp only
      rw [if_neg (by omega)]
      rfl
    conv => whnf
    refine ⟨⟨by omega, by omega, by omega, by omega⟩, ?_⟩
    conv => whnf
    refine ⟨trivial, by omega, L.length, fun q => if q < i then chF (cs.getD q []) else if q < i + m.length then chF (m.getD (q - i) []) else [.v (.slice none 0 0), vi 0], fun q hq => ?_, ?_⟩
    · rcases Nat.lt_or_ge q i with h2 | h2
      · exact .inr ⟨.inl (by omega), by omega, by dsimp only; rw [if_pos h2, if_pos h2]⟩
      · rcases Nat.lt_or_ge q (i + m.length) with h3 | h3
        · refine .inl ⟨by omega, by omega, ?_⟩
          dsimp only
          rw [if_neg (by omega), if_pos h3]
          show _ = chF (m.getD _ [])
          congr 2
          omega
        · exact .inr ⟨.inr (by omega), by omega, by dsimp only; rw [if_neg (by omega), if_neg (by omega), if_neg (by omega)]⟩
    conv => whnf
    refine drawV_mix 9 mixed (by kernel_rfl) ttok ftok ?_
    conv => whnf
    rw [w3]
    refine ⟨⟨by omega, by omega, by omega, by omega⟩, ?_⟩
    conv => whnf
    refine ⟨⟨by omega, by omega, by omega, by omega⟩, ?_⟩
    conv => whnf
    refine ⟨by omega, by omega, L.length, chR L, fun q hq => ?_, ?_⟩
    · rcases Nat.lt_or_ge q i with h2 | h2
      · refine .inr ⟨.inl (by omega), by omega, ?_⟩
        show chF (L.getD q []) = if q < i then _ else _
        rw [hget, if_pos h2, if_pos h2]
      · rcases Nat.lt_or_ge q (i + m.length) with h3 | h3
        · refine .inr ⟨.inl (by omega), by omega, ?_⟩
          show chF (L.getD q []) = if q < i then _ else (if q < i + m.length then _ else _)
          rw [hget, if_neg (show ¬ q < i by omega), if_neg (show ¬ q < i by omega), if_pos h3, if_pos h3]
        · refine .inl ⟨by omega, by omega, ?_⟩
          show chF (L.getD q []) = chF (cs.getD _ [])
          rw [hget, if_neg (by omega), if_neg (by omega)]
          congr 2
          omega
    conv => whnf
    refine ⟨_, view_row 8 2 (n := L.length) rfl rfl (by omega) (by omega) (by omega) (by omega), ?_⟩
    conv => whnf
    exact ⟨[none, none, some 3], rfl, rfl, rfl, rfl⟩
  have h := of_decide_eq_false h
  conv => whnf
  refine ⟨⟨by omega, by omega, by omega, by omega⟩, ?_⟩
  conv => whnf
  rw [w3]
  refine onB_intro (fun g => ?_) (fun g => ?_)
  · have g := of_decide_eq_true g
    have hm1 : m.length = 1 := by omega
    conv => whnf
    refine ⟨⟨by omega, by omega, by omega, by omega⟩, ?_⟩
    conv => whnf
    refine ⟨trivial, by omega, L.length, chR L, fun q hq => ?_, ?_⟩
    · rcases Nat.lt_trichotomy q i with h2 | h2 | h2
      · refine .inr ⟨.inl (by omega), by omega, ?_⟩
        show chF (L.getD q []) = chF (cs.getD q [])
        rw [hget, if_pos h2]
      · refine .inl ⟨by omega, by omega, ?_⟩
        show chF (L.getD q []) = chF (m.getD _ [])
        rw [hget, if_neg (by omega), if_pos (by omega)]
        congr 2
        omega
      · refine .inr ⟨.inr (by omega), by omega, ?_⟩
        show chF (L.getD q []) = chF (cs.getD q [])
        rw [hget, if_neg (by omega), if_neg (by omega)]
        congr 2
        omega
    conv => whnf
    refine drawV_mix 9 mixed (by kernel_rfl) ttok ftok ?_
    conv => whnf
    rw [w3]
    refine ⟨⟨by omega, by omega, by omega, by omega⟩, ?_⟩
    conv => whnf
    refine ⟨⟨by omega, by omega, by omega, by omega⟩, ?_⟩
    conv => whnf
    refine ⟨by omega, by omega, L.length, chR L, fun q hq => ?_, ?_⟩
    · rcases Nat.lt_or_ge q (i + 1) with h2 | h2
      · exact .inr ⟨.inl (by omega), by omega, rfl⟩
      · refine .inl ⟨by omega, by omega, ?_⟩
        show chF (L.getD q []) = chF (L.getD _ [])
        congr 2
        omega
    conv => whnf
    refine ⟨⟨by omega, by omega, by omega, by omega⟩, ?_⟩
    conv => whnf
    refine ⟨by omega, L.length, chR L, fun q hq => .inr ⟨.inl (by omega), by omega, rfl⟩, ?_⟩
    conv => whnf
    refine ⟨_, view_row 8 1 (n := L.length) rfl rfl (by omega) (by omega) (by omega) (by omega), ?_⟩
    conv => whnf
    exact ⟨[none, none, some 2], rfl, rfl, rfl, rfl⟩
  have g := of_decide_eq_false g
  conv => whnf
  rw [w3]
  refine ⟨⟨by omega, by omega, by omega, by omega⟩, ?_⟩
  conv => whnf
  refine ext_overlaps (t := 30) (r := 4) (ti := ti97) Try.func114 (by kernel_rfl) rfl (by kernel_rfl) (by kernel_rfl) tf97 Try.underlying30 (apart_view_sl rfl (by omega) (by omega) (by omega) (by decide)) ?_
  conv => whnf
  refine drawV_mix 9 mixed (by kernel_rfl) ttok ftok ?_
  conv => whnf
  rw [w3]
  refine ⟨⟨by omega, by omega, by omega, by omega⟩, ?_⟩
  conv => whnf
  refine ⟨⟨by omega, by omega, by omega, by omega⟩, ?_⟩
  conv => whnf
  refine ⟨by omega, by omega, L.length, fun q => if q < i + m.length then chF (cs.getD q []) else chF (L.getD q []), fun q hq => ?_, ?_⟩
  · rcases Nat.lt_or_ge q (i + m.length) with h2 | h2
    · refine .inr ⟨.inl (by omega), by omega, ?_⟩
      show (if q < i + m.length then _ else _) = _
      rw [if_pos h2]
    · refine .inl ⟨by omega, by omega, ?_⟩
      show (if q < i + m.length then _ else chF (L.getD q [])) = chF (cs.getD _ [])
      rw [if_neg (by omega), hget, if_neg (by omega), if_neg (by omega)]
      congr 2
      omega
  conv => whnf
  refine ⟨⟨by omega, by omega, by omega, by omega⟩, ?_⟩
  conv => whnf
  refine ⟨trivial, by omega, L.length, chR L, fun q hq => ?_, ?_⟩
  · rcases Nat.lt_or_ge q i with h2 | h2
    · refine .inr ⟨.inl (by omega), by omega, ?_⟩
      show chF (L.getD q []) = if q < i + m.length then chF (cs.getD q []) else _
      rw [if_pos (show q < i + m.length by omega), hget, if_pos h2]
    · rcases Nat.lt_or_ge q (i + m.length) with h3 | h3
      · refine .inl ⟨by omega, by omega, ?_⟩
        show chF (L.getD q []) = chF (m.getD _ [])
        rw [hget, if_neg (show ¬ q < i by omega), if_pos h3]
        congr 2
        omega
      · refine .inr ⟨.inr (by omega), by omega, ?_⟩
        show chF (L.getD q []) = if q < i + m.length then _ else chF (L.getD q [])
        rw [if_neg (show ¬ q < i + m.length by omega)]
  conv => whnf
  refine ⟨_, view_row 8 1 (n := L.length) rfl rfl (by omega) (by omega) (by omega) (by omega), ?_⟩
  conv => whnf
  exact ⟨[none, none, some 2], rfl, rfl, rfl, rfl⟩
end Go.Eng
