/- A part of the proof: what the functions of the program come to, told by a small reckoner of states. -/
import Derived.Test.YteglopjljejjkabGA22TA26
import Derived.Test.YteglopjljejjkabProg
import Derived.KernelRfl
namespace Go.Eng
open Go Go.RowKit Go.Proofs
instance : HasGl Try.prog := ⟨fun _ => True, fun _ _ => trivial⟩
def ti1 : TI := ⟨1, false, (TypeDesc.func #[] #[] false), Value.nilFunc, 8, false, false, false⟩
theorem tf1 : TF Try.prog 1 ti1 := ⟨Try.sizeOf1, Try.isAgg1, Try.underlying1, Try.zeroValue1, by kernel_rfl, by kernel_rfl, by kernel_rfl, by kernel_rfl⟩
def ti2 : TI := ⟨1, false, (TypeDesc.int IntKind.i64), (Value.int IntKind.i64 0), 8, false, false, true⟩
theorem tf2 : TF Try.prog 2 ti2 := ⟨Try.sizeOf2, Try.isAgg2, Try.underlying2, Try.zeroValue2, by kernel_rfl, by kernel_rfl, by kernel_rfl, by kernel_rfl⟩
def ti3 : TI := ⟨1, false, (TypeDesc.int IntKind.i64), (Value.int IntKind.i64 0), 8, false, false, true⟩
theorem tf3 : TF Try.prog 3 ti3 := ⟨Try.sizeOf3, Try.isAgg3, Try.underlying3, Try.zeroValue3, by kernel_rfl, by kernel_rfl, by kernel_rfl, by kernel_rfl⟩
def ti4 : TI := ⟨1, false, TypeDesc.bool, (Value.bool false), 1, false, false, true⟩
theorem tf4 : TF Try.prog 4 ti4 := ⟨Try.sizeOf4, Try.isAgg4, Try.underlying4, Try.zeroValue4, by kernel_rfl, by kernel_rfl, by kernel_rfl, by kernel_rfl⟩
def ti5 : TI := ⟨1, false, (TypeDesc.int IntKind.u8), (Value.int IntKind.u8 0), 1, false, false, true⟩
theorem tf5 : TF Try.prog 5 ti5 := ⟨Try.sizeOf5, Try.isAgg5, Try.underlying5, Try.zeroValue5, by kernel_rfl, by kernel_rfl, by kernel_rfl, by kernel_rfl⟩
def ti6 : TI := ⟨1, false, (TypeDesc.int IntKind.u8), (Value.int IntKind.u8 0), 1, false, false, true⟩
theorem tf6 : TF Try.prog 6 ti6 := ⟨Try.sizeOf6, Try.isAgg6, Try.underlying6, Try.zeroValue6, by kernel_rfl, by kernel_rfl, by kernel_rfl, by kernel_rfl⟩
def ti9 : TI := ⟨1, false, TypeDesc.string, (Value.string { data := #[] }), 16, false, false, true⟩
theorem tf9 : TF Try.prog 9 ti9 := ⟨Try.sizeOf9, Try.isAgg9, Try.underlying9, Try.zeroValue9, by kernel_rfl, by kernel_rfl, by kernel_rfl, by kernel_rfl⟩
def ti10 : TI := ⟨1, false, TypeDesc.string, (Value.string { data := #[] }), 16, false, false, true⟩
theorem tf10 : TF Try.prog 10 ti10 := ⟨Try.sizeOf10, Try.isAgg10, Try.underlying10, Try.zeroValue10, by kernel_rfl, by kernel_rfl, by kernel_rfl, by kernel_rfl⟩
def ti11 : TI := ⟨1, false, TypeDesc.string, (Value.string { data := #[] }), 16, false, false, true⟩
theorem tf11 : TF Try.prog 11 ti11 := ⟨Try.sizeOf11, Try.isAgg11, Try.underlying11, Try.zeroValue11, by kernel_rfl, by kernel_rfl, by kernel_rfl, by kernel_rfl⟩
def ti12 : TI := ⟨1, false, (TypeDesc.int IntKind.u64), (Value.int IntKind.u64 0), 8, false, false, true⟩
theorem tf12 : TF Try.prog 12 ti12 := ⟨Try.sizeOf12, Try.isAgg12, Try.underlying12, Try.zeroValue12, by kernel_rfl, by kernel_rfl, by kernel_rfl, by kernel_rfl⟩
def ti15 : TI := ⟨1, false, (TypeDesc.pointer 195), (Value.pointer none), 8, false, false, true⟩
theorem tf15 : TF Try.prog 15 ti15 := ⟨Try.sizeOf15, Try.isAgg15, Try.underlying15, Try.zeroValue15, by kernel_rfl, by kernel_rfl, by kernel_rfl, by kernel_rfl⟩
def ti16 : TI := ⟨1, false, (TypeDesc.pointer 198), (Value.pointer none), 8, false, false, true⟩
theorem tf16 : TF Try.prog 16 ti16 := ⟨Try.sizeOf16, Try.isAgg16, Try.underlying16, Try.zeroValue16, by kernel_rfl, by kernel_rfl, by kernel_rfl, by kernel_rfl⟩
def ti17 : TI := ⟨1, false, (TypeDesc.pointer 206), (Value.pointer none), 8, false, false, true⟩
theorem tf17 : TF Try.prog 17 ti17 := ⟨Try.sizeOf17, Try.isAgg17, Try.underlying17, Try.zeroValue17, by kernel_rfl, by kernel_rfl, by kernel_rfl, by kernel_rfl⟩
def ti20 : TI := ⟨1, false, (TypeDesc.interface #[]), Value.nilIface, 16, false, false, true⟩
theorem tf20 : TF Try.prog 20 ti20 := ⟨Try.sizeOf20, Try.isAgg20, Try.underlying20, Try.zeroValue20, by kernel_rfl, by kernel_rfl, by kernel_rfl, by kernel_rfl⟩
def ti21 : TI := ⟨1, false, (TypeDesc.int IntKind.i32), (Value.int IntKind.i32 0), 4, false, false, true⟩
theorem tf21 : TF Try.prog 21 ti21 := ⟨Try.sizeOf21, Try.isAgg21, Try.underlying21, Try.zeroValue21, by kernel_rfl, by kernel_rfl, by kernel_rfl, by kernel_rfl⟩
def ti22 : TI := ⟨1, false, (TypeDesc.slice 90), (Value.slice none 0 0), 24, false, false, false⟩
theorem tf22 : TF Try.prog 22 ti22 := ⟨Try.sizeOf22, Try.isAgg22, Try.underlying22, Try.zeroValue22, by kernel_rfl, by kernel_rfl, by kernel_rfl, by kernel_rfl⟩
def ti23 : TI := ⟨1, false, (TypeDesc.func #[] #[4] false), Value.nilFunc, 8, false, false, false⟩
theorem tf23 : TF Try.prog 23 ti23 := ⟨Try.sizeOf23, Try.isAgg23, Try.underlying23, Try.zeroValue23, by kernel_rfl, by kernel_rfl, by kernel_rfl, by kernel_rfl⟩
def ti24 : TI := ⟨1, false, (TypeDesc.func #[22] #[4] false), Value.nilFunc, 8, false, false, false⟩
theorem tf24 : TF Try.prog 24 ti24 := ⟨Try.sizeOf24, Try.isAgg24, Try.underlying24, Try.zeroValue24, by kernel_rfl, by kernel_rfl, by kernel_rfl, by kernel_rfl⟩
def ti25 : TI := ⟨1, false, (TypeDesc.func #[22, 22] #[22] false), Value.nilFunc, 8, false, false, false⟩
theorem tf25 : TF Try.prog 25 ti25 := ⟨Try.sizeOf25, Try.isAgg25, Try.underlying25, Try.zeroValue25, by kernel_rfl, by kernel_rfl, by kernel_rfl, by kernel_rfl⟩
def ti26 : TI := ⟨1, false, (TypeDesc.func #[22, 22] #[4] false), Value.nilFunc, 8, false, false, false⟩
theorem tf26 : TF Try.prog 26 ti26 := ⟨Try.sizeOf26, Try.isAgg26, Try.underlying26, Try.zeroValue26, by kernel_rfl, by kernel_rfl, by kernel_rfl, by kernel_rfl⟩
def ti27 : TI := ⟨1, false, (TypeDesc.func #[22, 22, 22] #[4] false), Value.nilFunc, 8, false, false, false⟩
theorem tf27 : TF Try.prog 27 ti27 := ⟨Try.sizeOf27, Try.isAgg27, Try.underlying27, Try.zeroValue27, by kernel_rfl, by kernel_rfl, by kernel_rfl, by kernel_rfl⟩
def ti28 : TI := ⟨1, false, (TypeDesc.slice 41), (Value.slice none 0 0), 24, false, false, false⟩
theorem tf28 : TF Try.prog 28 ti28 := ⟨Try.sizeOf28, Try.isAgg28, Try.underlying28, Try.zeroValue28, by kernel_rfl, by kernel_rfl, by kernel_rfl, by kernel_rfl⟩
def ti29 : TI := ⟨1, false, (TypeDesc.func #[28] #[28] false), Value.nilFunc, 8, false, false, false⟩
theorem tf29 : TF Try.prog 29 ti29 := ⟨Try.sizeOf29, Try.isAgg29, Try.underlying29, Try.zeroValue29, by kernel_rfl, by kernel_rfl, by kernel_rfl, by kernel_rfl⟩
def ti30 : TI := ⟨1, false, (TypeDesc.slice 97), (Value.slice none 0 0), 24, false, false, false⟩
theorem tf30 : TF Try.prog 30 ti30 := ⟨Try.sizeOf30, Try.isAgg30, Try.underlying30, Try.zeroValue30, by kernel_rfl, by kernel_rfl, by kernel_rfl, by kernel_rfl⟩
def ti31 : TI := ⟨3, true, (TypeDesc.struct #[{ name := "l", type := 30, offset := 0, embedded := false, tag := "", pkgPath := "surcingle/index", byteOffset := 0 }, { name := "len", type := 3, offset := 1, embedded := false, tag := "", pkgPath := "surcingle/index", byteOffset := 24 }, { name := "shown", type := 3, offset := 2, embedded := false, tag := "", pkgPath := "surcingle/index", byteOffset := 32 }]), (Value.agg #[Value.slice none 0 0, Value.int IntKind.i64 0, Value.int IntKind.i64 0]), 40, false, false, false⟩
theorem tf31 : TF Try.prog 31 ti31 := ⟨Try.sizeOf31, Try.isAgg31, Try.underlying31, Try.zeroValue31, by kernel_rfl, by kernel_rfl, by kernel_rfl, by kernel_rfl⟩
def ti32 : TI := ⟨3, true, (TypeDesc.struct #[{ name := "l", type := 30, offset := 0, embedded := false, tag := "", pkgPath := "surcingle/index", byteOffset := 0 }, { name := "len", type := 3, offset := 1, embedded := false, tag := "", pkgPath := "surcingle/index", byteOffset := 24 }, { name := "shown", type := 3, offset := 2, embedded := false, tag := "", pkgPath := "surcingle/index", byteOffset := 32 }]), (Value.agg #[Value.slice none 0 0, Value.int IntKind.i64 0, Value.int IntKind.i64 0]), 40, false, false, false⟩
theorem tf32 : TF Try.prog 32 ti32 := ⟨Try.sizeOf32, Try.isAgg32, Try.underlying32, Try.zeroValue32, by kernel_rfl, by kernel_rfl, by kernel_rfl, by kernel_rfl⟩
def ti33 : TI := ⟨1, false, (TypeDesc.interface #[("Error", 193)]), Value.nilIface, 16, false, true, true⟩
theorem tf33 : TF Try.prog 33 ti33 := ⟨Try.sizeOf33, Try.isAgg33, Try.underlying33, Try.zeroValue33, by kernel_rfl, by kernel_rfl, by kernel_rfl, by kernel_rfl⟩
def ti34 : TI := ⟨1, false, (TypeDesc.interface #[("Error", 193)]), Value.nilIface, 16, false, true, true⟩
theorem tf34 : TF Try.prog 34 ti34 := ⟨Try.sizeOf34, Try.isAgg34, Try.underlying34, Try.zeroValue34, by kernel_rfl, by kernel_rfl, by kernel_rfl, by kernel_rfl⟩
def ti36 : TI := ⟨1, false, (TypeDesc.func #[3, 41] #[32, 34] false), Value.nilFunc, 8, false, false, false⟩
theorem tf36 : TF Try.prog 36 ti36 := ⟨Try.sizeOf36, Try.isAgg36, Try.underlying36, Try.zeroValue36, by kernel_rfl, by kernel_rfl, by kernel_rfl, by kernel_rfl⟩
def ti37 : TI := ⟨1, false, (TypeDesc.int IntKind.u32), (Value.int IntKind.u32 0), 4, false, false, true⟩
theorem tf37 : TF Try.prog 37 ti37 := ⟨Try.sizeOf37, Try.isAgg37, Try.underlying37, Try.zeroValue37, by kernel_rfl, by kernel_rfl, by kernel_rfl, by kernel_rfl⟩
def ti38 : TI := ⟨2, true, (TypeDesc.struct #[{ name := "Client", type := 37, offset := 0, embedded := false, tag := "", pkgPath := "", byteOffset := 0 }, { name := "Clock", type := 37, offset := 1, embedded := false, tag := "", pkgPath := "", byteOffset := 4 }]), (Value.agg #[Value.int IntKind.u32 0, Value.int IntKind.u32 0]), 8, false, false, true⟩
theorem tf38 : TF Try.prog 38 ti38 := ⟨Try.sizeOf38, Try.isAgg38, Try.underlying38, Try.zeroValue38, by kernel_rfl, by kernel_rfl, by kernel_rfl, by kernel_rfl⟩
def ti39 : TI := ⟨2, true, (TypeDesc.struct #[{ name := "Client", type := 37, offset := 0, embedded := false, tag := "", pkgPath := "", byteOffset := 0 }, { name := "Clock", type := 37, offset := 1, embedded := false, tag := "", pkgPath := "", byteOffset := 4 }]), (Value.agg #[Value.int IntKind.u32 0, Value.int IntKind.u32 0]), 8, false, false, true⟩
theorem tf39 : TF Try.prog 39 ti39 := ⟨Try.sizeOf39, Try.isAgg39, Try.underlying39, Try.zeroValue39, by kernel_rfl, by kernel_rfl, by kernel_rfl, by kernel_rfl⟩
def ti40 : TI := ⟨4, true, (TypeDesc.struct #[{ name := "Id", type := 39, offset := 0, embedded := false, tag := "", pkgPath := "", byteOffset := 0 }, { name := "Ch", type := 21, offset := 2, embedded := false, tag := "", pkgPath := "", byteOffset := 8 }, { name := "Gone", type := 4, offset := 3, embedded := false, tag := "", pkgPath := "", byteOffset := 12 }]), (Value.agg #[Value.int IntKind.u32 0, Value.int IntKind.u32 0, Value.int IntKind.i32 0, Value.bool false]), 16, false, false, true⟩
theorem tf40 : TF Try.prog 40 ti40 := ⟨Try.sizeOf40, Try.isAgg40, Try.underlying40, Try.zeroValue40, by kernel_rfl, by kernel_rfl, by kernel_rfl, by kernel_rfl⟩
def ti41 : TI := ⟨4, true, (TypeDesc.struct #[{ name := "Id", type := 39, offset := 0, embedded := false, tag := "", pkgPath := "", byteOffset := 0 }, { name := "Ch", type := 21, offset := 2, embedded := false, tag := "", pkgPath := "", byteOffset := 8 }, { name := "Gone", type := 4, offset := 3, embedded := false, tag := "", pkgPath := "", byteOffset := 12 }]), (Value.agg #[Value.int IntKind.u32 0, Value.int IntKind.u32 0, Value.int IntKind.i32 0, Value.bool false]), 16, false, false, true⟩
theorem tf41 : TF Try.prog 41 ti41 := ⟨Try.sizeOf41, Try.isAgg41, Try.underlying41, Try.zeroValue41, by kernel_rfl, by kernel_rfl, by kernel_rfl, by kernel_rfl⟩
def ti42 : TI := ⟨1, false, (TypeDesc.func #[] #[3] false), Value.nilFunc, 8, false, false, false⟩
theorem tf42 : TF Try.prog 42 ti42 := ⟨Try.sizeOf42, Try.isAgg42, Try.underlying42, Try.zeroValue42, by kernel_rfl, by kernel_rfl, by kernel_rfl, by kernel_rfl⟩
def ti43 : TI := ⟨1, false, (TypeDesc.func #[3, 3] #[3] false), Value.nilFunc, 8, false, false, false⟩
theorem tf43 : TF Try.prog 43 ti43 := ⟨Try.sizeOf43, Try.isAgg43, Try.underlying43, Try.zeroValue43, by kernel_rfl, by kernel_rfl, by kernel_rfl, by kernel_rfl⟩
def ti44 : TI := ⟨1, false, (TypeDesc.func #[39] #[32, 34] false), Value.nilFunc, 8, false, false, false⟩
theorem tf44 : TF Try.prog 44 ti44 := ⟨Try.sizeOf44, Try.isAgg44, Try.underlying44, Try.zeroValue44, by kernel_rfl, by kernel_rfl, by kernel_rfl, by kernel_rfl⟩
def ti46 : TI := ⟨1, false, (TypeDesc.func #[39] #[3, 4] false), Value.nilFunc, 8, false, false, false⟩
theorem tf46 : TF Try.prog 46 ti46 := ⟨Try.sizeOf46, Try.isAgg46, Try.underlying46, Try.zeroValue46, by kernel_rfl, by kernel_rfl, by kernel_rfl, by kernel_rfl⟩
def ti48 : TI := ⟨1, false, (TypeDesc.func #[3] #[41, 34] false), Value.nilFunc, 8, false, false, false⟩
theorem tf48 : TF Try.prog 48 ti48 := ⟨Try.sizeOf48, Try.isAgg48, Try.underlying48, Try.zeroValue48, by kernel_rfl, by kernel_rfl, by kernel_rfl, by kernel_rfl⟩
def ti50 : TI := ⟨1, false, (TypeDesc.func #[3] #[3, 34] false), Value.nilFunc, 8, false, false, false⟩
theorem tf50 : TF Try.prog 50 ti50 := ⟨Try.sizeOf50, Try.isAgg50, Try.underlying50, Try.zeroValue50, by kernel_rfl, by kernel_rfl, by kernel_rfl, by kernel_rfl⟩
def ti51 : TI := ⟨1, false, (TypeDesc.func #[28, 3] #[4] false), Value.nilFunc, 8, false, false, false⟩
theorem tf51 : TF Try.prog 51 ti51 := ⟨Try.sizeOf51, Try.isAgg51, Try.underlying51, Try.zeroValue51, by kernel_rfl, by kernel_rfl, by kernel_rfl, by kernel_rfl⟩
def ti52 : TI := ⟨1, false, (TypeDesc.slice 56), (Value.slice none 0 0), 24, false, false, false⟩
theorem tf52 : TF Try.prog 52 ti52 := ⟨Try.sizeOf52, Try.isAgg52, Try.underlying52, Try.zeroValue52, by kernel_rfl, by kernel_rfl, by kernel_rfl, by kernel_rfl⟩
def ti53 : TI := ⟨1, false, (TypeDesc.func #[28] #[32] false), Value.nilFunc, 8, false, false, false⟩
theorem tf53 : TF Try.prog 53 ti53 := ⟨Try.sizeOf53, Try.isAgg53, Try.underlying53, Try.zeroValue53, by kernel_rfl, by kernel_rfl, by kernel_rfl, by kernel_rfl⟩
def ti54 : TI := ⟨1, false, (TypeDesc.func #[32, 28, 39] #[3] false), Value.nilFunc, 8, false, false, false⟩
theorem tf54 : TF Try.prog 54 ti54 := ⟨Try.sizeOf54, Try.isAgg54, Try.underlying54, Try.zeroValue54, by kernel_rfl, by kernel_rfl, by kernel_rfl, by kernel_rfl⟩
def ti55 : TI := ⟨6, true, (TypeDesc.struct #[{ name := "What", type := 3, offset := 0, embedded := false, tag := "", pkgPath := "", byteOffset := 0 }, { name := "At", type := 3, offset := 1, embedded := false, tag := "", pkgPath := "", byteOffset := 8 }, { name := "E", type := 41, offset := 2, embedded := false, tag := "", pkgPath := "", byteOffset := 16 }]), (Value.agg #[Value.int IntKind.i64 0, Value.int IntKind.i64 0, Value.int IntKind.u32 0, Value.int IntKind.u32 0, Value.int IntKind.i32 0, Value.bool false]), 32, false, false, true⟩
theorem tf55 : TF Try.prog 55 ti55 := ⟨Try.sizeOf55, Try.isAgg55, Try.underlying55, Try.zeroValue55, by kernel_rfl, by kernel_rfl, by kernel_rfl, by kernel_rfl⟩
def ti56 : TI := ⟨6, true, (TypeDesc.struct #[{ name := "What", type := 3, offset := 0, embedded := false, tag := "", pkgPath := "", byteOffset := 0 }, { name := "At", type := 3, offset := 1, embedded := false, tag := "", pkgPath := "", byteOffset := 8 }, { name := "E", type := 41, offset := 2, embedded := false, tag := "", pkgPath := "", byteOffset := 16 }]), (Value.agg #[Value.int IntKind.i64 0, Value.int IntKind.i64 0, Value.int IntKind.u32 0, Value.int IntKind.u32 0, Value.int IntKind.i32 0, Value.bool false]), 32, false, false, true⟩
theorem tf56 : TF Try.prog 56 ti56 := ⟨Try.sizeOf56, Try.isAgg56, Try.underlying56, Try.zeroValue56, by kernel_rfl, by kernel_rfl, by kernel_rfl, by kernel_rfl⟩
def ti57 : TI := ⟨1, false, (TypeDesc.func #[28, 39] #[3] false), Value.nilFunc, 8, false, false, false⟩
theorem tf57 : TF Try.prog 57 ti57 := ⟨Try.sizeOf57, Try.isAgg57, Try.underlying57, Try.zeroValue57, by kernel_rfl, by kernel_rfl, by kernel_rfl, by kernel_rfl⟩
def ti58 : TI := ⟨1, false, (TypeDesc.func #[34] #[3] false), Value.nilFunc, 8, false, false, false⟩
theorem tf58 : TF Try.prog 58 ti58 := ⟨Try.sizeOf58, Try.isAgg58, Try.underlying58, Try.zeroValue58, by kernel_rfl, by kernel_rfl, by kernel_rfl, by kernel_rfl⟩
def ti59 : TI := ⟨1, false, (TypeDesc.func #[28, 52] #[4] false), Value.nilFunc, 8, false, false, false⟩
theorem tf59 : TF Try.prog 59 ti59 := ⟨Try.sizeOf59, Try.isAgg59, Try.underlying59, Try.zeroValue59, by kernel_rfl, by kernel_rfl, by kernel_rfl, by kernel_rfl⟩
def ti60 : TI := ⟨1, false, (TypeDesc.slice 66), (Value.slice none 0 0), 24, false, false, false⟩
theorem tf60 : TF Try.prog 60 ti60 := ⟨Try.sizeOf60, Try.isAgg60, Try.underlying60, Try.zeroValue60, by kernel_rfl, by kernel_rfl, by kernel_rfl, by kernel_rfl⟩
def ti61 : TI := ⟨1, false, (TypeDesc.slice 3), (Value.slice none 0 0), 24, false, false, false⟩
theorem tf61 : TF Try.prog 61 ti61 := ⟨Try.sizeOf61, Try.isAgg61, Try.underlying61, Try.zeroValue61, by kernel_rfl, by kernel_rfl, by kernel_rfl, by kernel_rfl⟩
def ti62 : TI := ⟨1, false, (TypeDesc.func #[60] #[60] false), Value.nilFunc, 8, false, false, false⟩
theorem tf62 : TF Try.prog 62 ti62 := ⟨Try.sizeOf62, Try.isAgg62, Try.underlying62, Try.zeroValue62, by kernel_rfl, by kernel_rfl, by kernel_rfl, by kernel_rfl⟩
def ti63 : TI := ⟨1, false, (TypeDesc.slice 39), (Value.slice none 0 0), 24, false, false, false⟩
theorem tf63 : TF Try.prog 63 ti63 := ⟨Try.sizeOf63, Try.isAgg63, Try.underlying63, Try.zeroValue63, by kernel_rfl, by kernel_rfl, by kernel_rfl, by kernel_rfl⟩
def ti64 : TI := ⟨1, false, (TypeDesc.func #[60] #[63] false), Value.nilFunc, 8, false, false, false⟩
theorem tf64 : TF Try.prog 64 ti64 := ⟨Try.sizeOf64, Try.isAgg64, Try.underlying64, Try.zeroValue64, by kernel_rfl, by kernel_rfl, by kernel_rfl, by kernel_rfl⟩
def ti65 : TI := ⟨7, true, (TypeDesc.struct #[{ name := "Id", type := 39, offset := 0, embedded := false, tag := "", pkgPath := "", byteOffset := 0 }, { name := "Left", type := 39, offset := 2, embedded := false, tag := "", pkgPath := "", byteOffset := 8 }, { name := "Right", type := 39, offset := 4, embedded := false, tag := "", pkgPath := "", byteOffset := 16 }, { name := "Ch", type := 21, offset := 6, embedded := false, tag := "", pkgPath := "", byteOffset := 24 }]), (Value.agg #[Value.int IntKind.u32 0, Value.int IntKind.u32 0, Value.int IntKind.u32 0, Value.int IntKind.u32 0, Value.int IntKind.u32 0, Value.int IntKind.u32 0, Value.int IntKind.i32 0]), 28, false, false, true⟩
theorem tf65 : TF Try.prog 65 ti65 := ⟨Try.sizeOf65, Try.isAgg65, Try.underlying65, Try.zeroValue65, by kernel_rfl, by kernel_rfl, by kernel_rfl, by kernel_rfl⟩
def ti66 : TI := ⟨7, true, (TypeDesc.struct #[{ name := "Id", type := 39, offset := 0, embedded := false, tag := "", pkgPath := "", byteOffset := 0 }, { name := "Left", type := 39, offset := 2, embedded := false, tag := "", pkgPath := "", byteOffset := 8 }, { name := "Right", type := 39, offset := 4, embedded := false, tag := "", pkgPath := "", byteOffset := 16 }, { name := "Ch", type := 21, offset := 6, embedded := false, tag := "", pkgPath := "", byteOffset := 24 }]), (Value.agg #[Value.int IntKind.u32 0, Value.int IntKind.u32 0, Value.int IntKind.u32 0, Value.int IntKind.u32 0, Value.int IntKind.u32 0, Value.int IntKind.u32 0, Value.int IntKind.i32 0]), 28, false, false, true⟩
theorem tf66 : TF Try.prog 66 ti66 := ⟨Try.sizeOf66, Try.isAgg66, Try.underlying66, Try.zeroValue66, by kernel_rfl, by kernel_rfl, by kernel_rfl, by kernel_rfl⟩
def ti67 : TI := ⟨1, false, (TypeDesc.func #[60] #[4] false), Value.nilFunc, 8, false, false, false⟩
theorem tf67 : TF Try.prog 67 ti67 := ⟨Try.sizeOf67, Try.isAgg67, Try.underlying67, Try.zeroValue67, by kernel_rfl, by kernel_rfl, by kernel_rfl, by kernel_rfl⟩
def ti68 : TI := ⟨1, false, (TypeDesc.func #[63, 63] #[4] false), Value.nilFunc, 8, false, false, false⟩
theorem tf68 : TF Try.prog 68 ti68 := ⟨Try.sizeOf68, Try.isAgg68, Try.underlying68, Try.zeroValue68, by kernel_rfl, by kernel_rfl, by kernel_rfl, by kernel_rfl⟩
def ti69 : TI := ⟨1, false, (TypeDesc.func #[60, 61, 3] #[4] false), Value.nilFunc, 8, false, false, false⟩
theorem tf69 : TF Try.prog 69 ti69 := ⟨Try.sizeOf69, Try.isAgg69, Try.underlying69, Try.zeroValue69, by kernel_rfl, by kernel_rfl, by kernel_rfl, by kernel_rfl⟩
def ti70 : TI := ⟨1, false, (TypeDesc.func #[60, 3, 39] #[4] false), Value.nilFunc, 8, false, false, false⟩
theorem tf70 : TF Try.prog 70 ti70 := ⟨Try.sizeOf70, Try.isAgg70, Try.underlying70, Try.zeroValue70, by kernel_rfl, by kernel_rfl, by kernel_rfl, by kernel_rfl⟩
def ti71 : TI := ⟨3, true, (TypeDesc.struct #[{ name := "On", type := 39, offset := 0, embedded := false, tag := "", pkgPath := "", byteOffset := 0 }, { name := "Right", type := 4, offset := 2, embedded := false, tag := "", pkgPath := "", byteOffset := 8 }]), (Value.agg #[Value.int IntKind.u32 0, Value.int IntKind.u32 0, Value.bool false]), 12, false, false, true⟩
theorem tf71 : TF Try.prog 71 ti71 := ⟨Try.sizeOf71, Try.isAgg71, Try.underlying71, Try.zeroValue71, by kernel_rfl, by kernel_rfl, by kernel_rfl, by kernel_rfl⟩
def ti72 : TI := ⟨3, true, (TypeDesc.struct #[{ name := "On", type := 39, offset := 0, embedded := false, tag := "", pkgPath := "", byteOffset := 0 }, { name := "Right", type := 4, offset := 2, embedded := false, tag := "", pkgPath := "", byteOffset := 8 }]), (Value.agg #[Value.int IntKind.u32 0, Value.int IntKind.u32 0, Value.bool false]), 12, false, false, true⟩
theorem tf72 : TF Try.prog 72 ti72 := ⟨Try.sizeOf72, Try.isAgg72, Try.underlying72, Try.zeroValue72, by kernel_rfl, by kernel_rfl, by kernel_rfl, by kernel_rfl⟩
def ti73 : TI := ⟨1, false, (TypeDesc.func #[60, 66] #[72] false), Value.nilFunc, 8, false, false, false⟩
theorem tf73 : TF Try.prog 73 ti73 := ⟨Try.sizeOf73, Try.isAgg73, Try.underlying73, Try.zeroValue73, by kernel_rfl, by kernel_rfl, by kernel_rfl, by kernel_rfl⟩
def ti74 : TI := ⟨3, true, (TypeDesc.struct #[{ name := "On", type := 39, offset := 0, embedded := false, tag := "", pkgPath := "", byteOffset := 0 }, { name := "Right", type := 4, offset := 2, embedded := false, tag := "", pkgPath := "", byteOffset := 8 }]), (Value.agg #[Value.int IntKind.u32 0, Value.int IntKind.u32 0, Value.bool false]), 12, false, false, true⟩
theorem tf74 : TF Try.prog 74 ti74 := ⟨Try.sizeOf74, Try.isAgg74, Try.underlying74, Try.zeroValue74, by kernel_rfl, by kernel_rfl, by kernel_rfl, by kernel_rfl⟩
def ti75 : TI := ⟨1, false, (TypeDesc.func #[60, 66] #[74] false), Value.nilFunc, 8, false, false, false⟩
theorem tf75 : TF Try.prog 75 ti75 := ⟨Try.sizeOf75, Try.isAgg75, Try.underlying75, Try.zeroValue75, by kernel_rfl, by kernel_rfl, by kernel_rfl, by kernel_rfl⟩
def ti76 : TI := ⟨1, false, (TypeDesc.func #[60, 66] #[4] false), Value.nilFunc, 8, false, false, false⟩
theorem tf76 : TF Try.prog 76 ti76 := ⟨Try.sizeOf76, Try.isAgg76, Try.underlying76, Try.zeroValue76, by kernel_rfl, by kernel_rfl, by kernel_rfl, by kernel_rfl⟩
def ti77 : TI := ⟨1, false, (TypeDesc.slice 87), (Value.slice none 0 0), 24, false, false, false⟩
theorem tf77 : TF Try.prog 77 ti77 := ⟨Try.sizeOf77, Try.isAgg77, Try.underlying77, Try.zeroValue77, by kernel_rfl, by kernel_rfl, by kernel_rfl, by kernel_rfl⟩
def ti78 : TI := ⟨1, false, (TypeDesc.func #[77] #[77] false), Value.nilFunc, 8, false, false, false⟩
theorem tf78 : TF Try.prog 78 ti78 := ⟨Try.sizeOf78, Try.isAgg78, Try.underlying78, Try.zeroValue78, by kernel_rfl, by kernel_rfl, by kernel_rfl, by kernel_rfl⟩
def ti79 : TI := ⟨1, false, (TypeDesc.func #[77, 77] #[4] false), Value.nilFunc, 8, false, false, false⟩
theorem tf79 : TF Try.prog 79 ti79 := ⟨Try.sizeOf79, Try.isAgg79, Try.underlying79, Try.zeroValue79, by kernel_rfl, by kernel_rfl, by kernel_rfl, by kernel_rfl⟩
def ti80 : TI := ⟨1, false, (TypeDesc.func #[77, 77] #[77] false), Value.nilFunc, 8, false, false, false⟩
theorem tf80 : TF Try.prog 80 ti80 := ⟨Try.sizeOf80, Try.isAgg80, Try.underlying80, Try.zeroValue80, by kernel_rfl, by kernel_rfl, by kernel_rfl, by kernel_rfl⟩
def ti81 : TI := ⟨1, false, (TypeDesc.func #[77] #[4] false), Value.nilFunc, 8, false, false, false⟩
theorem tf81 : TF Try.prog 81 ti81 := ⟨Try.sizeOf81, Try.isAgg81, Try.underlying81, Try.zeroValue81, by kernel_rfl, by kernel_rfl, by kernel_rfl, by kernel_rfl⟩
def ti82 : TI := ⟨1, false, (TypeDesc.func #[77, 39] #[4] false), Value.nilFunc, 8, false, false, false⟩
theorem tf82 : TF Try.prog 82 ti82 := ⟨Try.sizeOf82, Try.isAgg82, Try.underlying82, Try.zeroValue82, by kernel_rfl, by kernel_rfl, by kernel_rfl, by kernel_rfl⟩
def ti83 : TI := ⟨1, false, (TypeDesc.int IntKind.u64), (Value.int IntKind.u64 0), 8, false, false, true⟩
theorem tf83 : TF Try.prog 83 ti83 := ⟨Try.sizeOf83, Try.isAgg83, Try.underlying83, Try.zeroValue83, by kernel_rfl, by kernel_rfl, by kernel_rfl, by kernel_rfl⟩
def ti84 : TI := ⟨1, false, (TypeDesc.func #[77] #[83] false), Value.nilFunc, 8, false, false, false⟩
theorem tf84 : TF Try.prog 84 ti84 := ⟨Try.sizeOf84, Try.isAgg84, Try.underlying84, Try.zeroValue84, by kernel_rfl, by kernel_rfl, by kernel_rfl, by kernel_rfl⟩
def ti85 : TI := ⟨1, false, (TypeDesc.func #[77, 77, 39] #[4] false), Value.nilFunc, 8, false, false, false⟩
theorem tf85 : TF Try.prog 85 ti85 := ⟨Try.sizeOf85, Try.isAgg85, Try.underlying85, Try.zeroValue85, by kernel_rfl, by kernel_rfl, by kernel_rfl, by kernel_rfl⟩
def ti86 : TI := ⟨3, true, (TypeDesc.struct #[{ name := "Client", type := 37, offset := 0, embedded := false, tag := "", pkgPath := "", byteOffset := 0 }, { name := "From", type := 37, offset := 1, embedded := false, tag := "", pkgPath := "", byteOffset := 4 }, { name := "To", type := 37, offset := 2, embedded := false, tag := "", pkgPath := "", byteOffset := 8 }]), (Value.agg #[Value.int IntKind.u32 0, Value.int IntKind.u32 0, Value.int IntKind.u32 0]), 12, false, false, true⟩
theorem tf86 : TF Try.prog 86 ti86 := ⟨Try.sizeOf86, Try.isAgg86, Try.underlying86, Try.zeroValue86, by kernel_rfl, by kernel_rfl, by kernel_rfl, by kernel_rfl⟩
def ti87 : TI := ⟨3, true, (TypeDesc.struct #[{ name := "Client", type := 37, offset := 0, embedded := false, tag := "", pkgPath := "", byteOffset := 0 }, { name := "From", type := 37, offset := 1, embedded := false, tag := "", pkgPath := "", byteOffset := 4 }, { name := "To", type := 37, offset := 2, embedded := false, tag := "", pkgPath := "", byteOffset := 8 }]), (Value.agg #[Value.int IntKind.u32 0, Value.int IntKind.u32 0, Value.int IntKind.u32 0]), 12, false, false, true⟩
theorem tf87 : TF Try.prog 87 ti87 := ⟨Try.sizeOf87, Try.isAgg87, Try.underlying87, Try.zeroValue87, by kernel_rfl, by kernel_rfl, by kernel_rfl, by kernel_rfl⟩
def ti88 : TI := ⟨1, false, (TypeDesc.func #[22, 37, 37] #[22] false), Value.nilFunc, 8, false, false, false⟩
theorem tf88 : TF Try.prog 88 ti88 := ⟨Try.sizeOf88, Try.isAgg88, Try.underlying88, Try.zeroValue88, by kernel_rfl, by kernel_rfl, by kernel_rfl, by kernel_rfl⟩
def ti89 : TI := ⟨2, true, (TypeDesc.struct #[{ name := "Client", type := 37, offset := 0, embedded := false, tag := "", pkgPath := "", byteOffset := 0 }, { name := "Next", type := 37, offset := 1, embedded := false, tag := "", pkgPath := "", byteOffset := 4 }]), (Value.agg #[Value.int IntKind.u32 0, Value.int IntKind.u32 0]), 8, false, false, true⟩
theorem tf89 : TF Try.prog 89 ti89 := ⟨Try.sizeOf89, Try.isAgg89, Try.underlying89, Try.zeroValue89, by kernel_rfl, by kernel_rfl, by kernel_rfl, by kernel_rfl⟩
def ti90 : TI := ⟨2, true, (TypeDesc.struct #[{ name := "Client", type := 37, offset := 0, embedded := false, tag := "", pkgPath := "", byteOffset := 0 }, { name := "Next", type := 37, offset := 1, embedded := false, tag := "", pkgPath := "", byteOffset := 4 }]), (Value.agg #[Value.int IntKind.u32 0, Value.int IntKind.u32 0]), 8, false, false, true⟩
theorem tf90 : TF Try.prog 90 ti90 := ⟨Try.sizeOf90, Try.isAgg90, Try.underlying90, Try.zeroValue90, by kernel_rfl, by kernel_rfl, by kernel_rfl, by kernel_rfl⟩
def ti91 : TI := ⟨1, false, (TypeDesc.func #[22, 37] #[37] false), Value.nilFunc, 8, false, false, false⟩
theorem tf91 : TF Try.prog 91 ti91 := ⟨Try.sizeOf91, Try.isAgg91, Try.underlying91, Try.zeroValue91, by kernel_rfl, by kernel_rfl, by kernel_rfl, by kernel_rfl⟩
def ti92 : TI := ⟨1, false, (TypeDesc.func #[22] #[22] false), Value.nilFunc, 8, false, false, false⟩
theorem tf92 : TF Try.prog 92 ti92 := ⟨Try.sizeOf92, Try.isAgg92, Try.underlying92, Try.zeroValue92, by kernel_rfl, by kernel_rfl, by kernel_rfl, by kernel_rfl⟩
def ti93 : TI := ⟨1, false, (TypeDesc.func #[22, 94] #[4] false), Value.nilFunc, 8, false, false, false⟩
theorem tf93 : TF Try.prog 93 ti93 := ⟨Try.sizeOf93, Try.isAgg93, Try.underlying93, Try.zeroValue93, by kernel_rfl, by kernel_rfl, by kernel_rfl, by kernel_rfl⟩
def ti94 : TI := ⟨1, false, (TypeDesc.func #[90] #[4] false), Value.nilFunc, 8, false, false, false⟩
theorem tf94 : TF Try.prog 94 ti94 := ⟨Try.sizeOf94, Try.isAgg94, Try.underlying94, Try.zeroValue94, by kernel_rfl, by kernel_rfl, by kernel_rfl, by kernel_rfl⟩
def ti95 : TI := ⟨1, false, (TypeDesc.int IntKind.i64), (Value.int IntKind.i64 0), 8, false, false, true⟩
theorem tf95 : TF Try.prog 95 ti95 := ⟨Try.sizeOf95, Try.isAgg95, Try.underlying95, Try.zeroValue95, by kernel_rfl, by kernel_rfl, by kernel_rfl, by kernel_rfl⟩
def ti96 : TI := ⟨2, true, (TypeDesc.struct #[{ name := "l", type := 28, offset := 0, embedded := false, tag := "", pkgPath := "surcingle/index", byteOffset := 0 }, { name := "shown", type := 3, offset := 1, embedded := false, tag := "", pkgPath := "surcingle/index", byteOffset := 24 }]), (Value.agg #[Value.slice none 0 0, Value.int IntKind.i64 0]), 32, false, false, false⟩
theorem tf96 : TF Try.prog 96 ti96 := ⟨Try.sizeOf96, Try.isAgg96, Try.underlying96, Try.zeroValue96, by kernel_rfl, by kernel_rfl, by kernel_rfl, by kernel_rfl⟩
def ti97 : TI := ⟨2, true, (TypeDesc.struct #[{ name := "l", type := 28, offset := 0, embedded := false, tag := "", pkgPath := "surcingle/index", byteOffset := 0 }, { name := "shown", type := 3, offset := 1, embedded := false, tag := "", pkgPath := "surcingle/index", byteOffset := 24 }]), (Value.agg #[Value.slice none 0 0, Value.int IntKind.i64 0]), 32, false, false, false⟩
theorem tf97 : TF Try.prog 97 ti97 := ⟨Try.sizeOf97, Try.isAgg97, Try.underlying97, Try.zeroValue97, by kernel_rfl, by kernel_rfl, by kernel_rfl, by kernel_rfl⟩
def ti98 : TI := ⟨1, false, (TypeDesc.func #[28, 3, 28] #[28] true), Value.nilFunc, 8, false, false, false⟩
theorem tf98 : TF Try.prog 98 ti98 := ⟨Try.sizeOf98, Try.isAgg98, Try.underlying98, Try.zeroValue98, by kernel_rfl, by kernel_rfl, by kernel_rfl, by kernel_rfl⟩
def ti99 : TI := ⟨1, false, (TypeDesc.func #[3, 30] #[32] true), Value.nilFunc, 8, false, false, false⟩
theorem tf99 : TF Try.prog 99 ti99 := ⟨Try.sizeOf99, Try.isAgg99, Try.underlying99, Try.zeroValue99, by kernel_rfl, by kernel_rfl, by kernel_rfl, by kernel_rfl⟩
def ti100 : TI := ⟨1, false, (TypeDesc.func #[28] #[97] false), Value.nilFunc, 8, false, false, false⟩
theorem tf100 : TF Try.prog 100 ti100 := ⟨Try.sizeOf100, Try.isAgg100, Try.underlying100, Try.zeroValue100, by kernel_rfl, by kernel_rfl, by kernel_rfl, by kernel_rfl⟩
def ti102 : TI := ⟨1, false, (TypeDesc.func #[39] #[3, 3, 4] false), Value.nilFunc, 8, false, false, false⟩
theorem tf102 : TF Try.prog 102 ti102 := ⟨Try.sizeOf102, Try.isAgg102, Try.underlying102, Try.zeroValue102, by kernel_rfl, by kernel_rfl, by kernel_rfl, by kernel_rfl⟩
def ti103 : TI := ⟨1, false, (TypeDesc.func #[144] #[] false), Value.nilFunc, 8, false, false, false⟩
theorem tf103 : TF Try.prog 103 ti103 := ⟨Try.sizeOf103, Try.isAgg103, Try.underlying103, Try.zeroValue103, by kernel_rfl, by kernel_rfl, by kernel_rfl, by kernel_rfl⟩
def ti104 : TI := ⟨1, false, (TypeDesc.func #[144] #[] false), Value.nilFunc, 8, false, false, false⟩
theorem tf104 : TF Try.prog 104 ti104 := ⟨Try.sizeOf104, Try.isAgg104, Try.underlying104, Try.zeroValue104, by kernel_rfl, by kernel_rfl, by kernel_rfl, by kernel_rfl⟩
def ti105 : TI := ⟨1, false, (TypeDesc.func #[28, 3] #[104] false), Value.nilFunc, 8, false, false, false⟩
theorem tf105 : TF Try.prog 105 ti105 := ⟨Try.sizeOf105, Try.isAgg105, Try.underlying105, Try.zeroValue105, by kernel_rfl, by kernel_rfl, by kernel_rfl, by kernel_rfl⟩
def ti106 : TI := ⟨1, false, (TypeDesc.func #[30] #[32] false), Value.nilFunc, 8, false, false, false⟩
theorem tf106 : TF Try.prog 106 ti106 := ⟨Try.sizeOf106, Try.isAgg106, Try.underlying106, Try.zeroValue106, by kernel_rfl, by kernel_rfl, by kernel_rfl, by kernel_rfl⟩
def ti107 : TI := ⟨1, false, (TypeDesc.func #[28] #[61] false), Value.nilFunc, 8, false, false, false⟩
theorem tf107 : TF Try.prog 107 ti107 := ⟨Try.sizeOf107, Try.isAgg107, Try.underlying107, Try.zeroValue107, by kernel_rfl, by kernel_rfl, by kernel_rfl, by kernel_rfl⟩
def ti108 : TI := ⟨1, false, (TypeDesc.func #[28, 28] #[4] false), Value.nilFunc, 8, false, false, false⟩
theorem tf108 : TF Try.prog 108 ti108 := ⟨Try.sizeOf108, Try.isAgg108, Try.underlying108, Try.zeroValue108, by kernel_rfl, by kernel_rfl, by kernel_rfl, by kernel_rfl⟩
def ti109 : TI := ⟨1, false, (TypeDesc.func #[] #[28] false), Value.nilFunc, 8, false, false, false⟩
theorem tf109 : TF Try.prog 109 ti109 := ⟨Try.sizeOf109, Try.isAgg109, Try.underlying109, Try.zeroValue109, by kernel_rfl, by kernel_rfl, by kernel_rfl, by kernel_rfl⟩
def ti110 : TI := ⟨1, false, (TypeDesc.func #[21] #[4] false), Value.nilFunc, 8, false, false, false⟩
theorem tf110 : TF Try.prog 110 ti110 := ⟨Try.sizeOf110, Try.isAgg110, Try.underlying110, Try.zeroValue110, by kernel_rfl, by kernel_rfl, by kernel_rfl, by kernel_rfl⟩
def ti111 : TI := ⟨1, false, (TypeDesc.map 39 72), (Value.map none), 8, false, false, false⟩
theorem tf111 : TF Try.prog 111 ti111 := ⟨Try.sizeOf111, Try.isAgg111, Try.underlying111, Try.zeroValue111, by kernel_rfl, by kernel_rfl, by kernel_rfl, by kernel_rfl⟩
def ti112 : TI := ⟨1, false, (TypeDesc.func #[60] #[111] false), Value.nilFunc, 8, false, false, false⟩
theorem tf112 : TF Try.prog 112 ti112 := ⟨Try.sizeOf112, Try.isAgg112, Try.underlying112, Try.zeroValue112, by kernel_rfl, by kernel_rfl, by kernel_rfl, by kernel_rfl⟩
def ti113 : TI := ⟨1, false, (TypeDesc.map 72 63), (Value.map none), 8, false, false, false⟩
theorem tf113 : TF Try.prog 113 ti113 := ⟨Try.sizeOf113, Try.isAgg113, Try.underlying113, Try.zeroValue113, by kernel_rfl, by kernel_rfl, by kernel_rfl, by kernel_rfl⟩
def ti114 : TI := ⟨1, false, (TypeDesc.func #[63, 115] #[] false), Value.nilFunc, 8, false, false, false⟩
theorem tf114 : TF Try.prog 114 ti114 := ⟨Try.sizeOf114, Try.isAgg114, Try.underlying114, Try.zeroValue114, by kernel_rfl, by kernel_rfl, by kernel_rfl, by kernel_rfl⟩
def ti115 : TI := ⟨1, false, (TypeDesc.func #[39, 39] #[3] false), Value.nilFunc, 8, false, false, false⟩
theorem tf115 : TF Try.prog 115 ti115 := ⟨Try.sizeOf115, Try.isAgg115, Try.underlying115, Try.zeroValue115, by kernel_rfl, by kernel_rfl, by kernel_rfl, by kernel_rfl⟩
def ti116 : TI := ⟨1, false, (TypeDesc.func #[39] #[] false), Value.nilFunc, 8, false, false, false⟩
theorem tf116 : TF Try.prog 116 ti116 := ⟨Try.sizeOf116, Try.isAgg116, Try.underlying116, Try.zeroValue116, by kernel_rfl, by kernel_rfl, by kernel_rfl, by kernel_rfl⟩
def ti117 : TI := ⟨1, false, (TypeDesc.func #[72] #[] false), Value.nilFunc, 8, false, false, false⟩
theorem tf117 : TF Try.prog 117 ti117 := ⟨Try.sizeOf117, Try.isAgg117, Try.underlying117, Try.zeroValue117, by kernel_rfl, by kernel_rfl, by kernel_rfl, by kernel_rfl⟩
def ti118 : TI := ⟨1, false, (TypeDesc.map 39 4), (Value.map none), 8, false, false, false⟩
theorem tf118 : TF Try.prog 118 ti118 := ⟨Try.sizeOf118, Try.isAgg118, Try.underlying118, Try.zeroValue118, by kernel_rfl, by kernel_rfl, by kernel_rfl, by kernel_rfl⟩
def ti119 : TI := ⟨1, false, (TypeDesc.func #[39] #[4] false), Value.nilFunc, 8, false, false, false⟩
theorem tf119 : TF Try.prog 119 ti119 := ⟨Try.sizeOf119, Try.isAgg119, Try.underlying119, Try.zeroValue119, by kernel_rfl, by kernel_rfl, by kernel_rfl, by kernel_rfl⟩
def ti120 : TI := ⟨1, false, (TypeDesc.func #[60, 39] #[3] false), Value.nilFunc, 8, false, false, false⟩
theorem tf120 : TF Try.prog 120 ti120 := ⟨Try.sizeOf120, Try.isAgg120, Try.underlying120, Try.zeroValue120, by kernel_rfl, by kernel_rfl, by kernel_rfl, by kernel_rfl⟩
def ti121 : TI := ⟨1, false, (TypeDesc.func #[60, 122, 74] #[63] false), Value.nilFunc, 8, false, false, false⟩
theorem tf121 : TF Try.prog 121 ti121 := ⟨Try.sizeOf121, Try.isAgg121, Try.underlying121, Try.zeroValue121, by kernel_rfl, by kernel_rfl, by kernel_rfl, by kernel_rfl⟩
def ti122 : TI := ⟨1, false, (TypeDesc.slice 74), (Value.slice none 0 0), 24, false, false, false⟩
theorem tf122 : TF Try.prog 122 ti122 := ⟨Try.sizeOf122, Try.isAgg122, Try.underlying122, Try.zeroValue122, by kernel_rfl, by kernel_rfl, by kernel_rfl, by kernel_rfl⟩
def ti123 : TI := ⟨1, false, (TypeDesc.func #[60] #[122] false), Value.nilFunc, 8, false, false, false⟩
theorem tf123 : TF Try.prog 123 ti123 := ⟨Try.sizeOf123, Try.isAgg123, Try.underlying123, Try.zeroValue123, by kernel_rfl, by kernel_rfl, by kernel_rfl, by kernel_rfl⟩
def ti124 : TI := ⟨1, false, (TypeDesc.func #[111, 66] #[72] false), Value.nilFunc, 8, false, false, false⟩
theorem tf124 : TF Try.prog 124 ti124 := ⟨Try.sizeOf124, Try.isAgg124, Try.underlying124, Try.zeroValue124, by kernel_rfl, by kernel_rfl, by kernel_rfl, by kernel_rfl⟩
def ti125 : TI := ⟨1, false, (TypeDesc.func #[60, 122, 66] #[74] false), Value.nilFunc, 8, false, false, false⟩
theorem tf125 : TF Try.prog 125 ti125 := ⟨Try.sizeOf125, Try.isAgg125, Try.underlying125, Try.zeroValue125, by kernel_rfl, by kernel_rfl, by kernel_rfl, by kernel_rfl⟩
def ti126 : TI := ⟨1, false, (TypeDesc.func #[77, 87] #[77] false), Value.nilFunc, 8, false, false, false⟩
theorem tf126 : TF Try.prog 126 ti126 := ⟨Try.sizeOf126, Try.isAgg126, Try.underlying126, Try.zeroValue126, by kernel_rfl, by kernel_rfl, by kernel_rfl, by kernel_rfl⟩
def ti127 : TI := ⟨1, false, (TypeDesc.func #[77, 128] #[77] false), Value.nilFunc, 8, false, false, false⟩
theorem tf127 : TF Try.prog 127 ti127 := ⟨Try.sizeOf127, Try.isAgg127, Try.underlying127, Try.zeroValue127, by kernel_rfl, by kernel_rfl, by kernel_rfl, by kernel_rfl⟩
def ti128 : TI := ⟨1, false, (TypeDesc.func #[87] #[4] false), Value.nilFunc, 8, false, false, false⟩
theorem tf128 : TF Try.prog 128 ti128 := ⟨Try.sizeOf128, Try.isAgg128, Try.underlying128, Try.zeroValue128, by kernel_rfl, by kernel_rfl, by kernel_rfl, by kernel_rfl⟩
def ti129 : TI := ⟨1, false, (TypeDesc.func #[77, 132] #[] false), Value.nilFunc, 8, false, false, false⟩
theorem tf129 : TF Try.prog 129 ti129 := ⟨Try.sizeOf129, Try.isAgg129, Try.underlying129, Try.zeroValue129, by kernel_rfl, by kernel_rfl, by kernel_rfl, by kernel_rfl⟩
def ti130 : TI := ⟨1, false, (TypeDesc.func #[61] #[3] true), Value.nilFunc, 8, false, false, false⟩
theorem tf130 : TF Try.prog 130 ti130 := ⟨Try.sizeOf130, Try.isAgg130, Try.underlying130, Try.zeroValue130, by kernel_rfl, by kernel_rfl, by kernel_rfl, by kernel_rfl⟩
def ti131 : TI := ⟨1, false, (TypeDesc.func #[37, 37] #[3] false), Value.nilFunc, 8, false, false, false⟩
theorem tf131 : TF Try.prog 131 ti131 := ⟨Try.sizeOf131, Try.isAgg131, Try.underlying131, Try.zeroValue131, by kernel_rfl, by kernel_rfl, by kernel_rfl, by kernel_rfl⟩
def ti132 : TI := ⟨1, false, (TypeDesc.func #[87, 87] #[3] false), Value.nilFunc, 8, false, false, false⟩
theorem tf132 : TF Try.prog 132 ti132 := ⟨Try.sizeOf132, Try.isAgg132, Try.underlying132, Try.zeroValue132, by kernel_rfl, by kernel_rfl, by kernel_rfl, by kernel_rfl⟩
def ti133 : TI := ⟨1, false, (TypeDesc.func #[154] #[77] true), Value.nilFunc, 8, false, false, false⟩
theorem tf133 : TF Try.prog 133 ti133 := ⟨Try.sizeOf133, Try.isAgg133, Try.underlying133, Try.zeroValue133, by kernel_rfl, by kernel_rfl, by kernel_rfl, by kernel_rfl⟩
def ti134 : TI := ⟨1, false, (TypeDesc.func #[77, 128] #[4] false), Value.nilFunc, 8, false, false, false⟩
theorem tf134 : TF Try.prog 134 ti134 := ⟨Try.sizeOf134, Try.isAgg134, Try.underlying134, Try.zeroValue134, by kernel_rfl, by kernel_rfl, by kernel_rfl, by kernel_rfl⟩
def ti135 : TI := ⟨1, false, (TypeDesc.func #[22, 37] #[3, 4] false), Value.nilFunc, 8, false, false, false⟩
theorem tf135 : TF Try.prog 135 ti135 := ⟨Try.sizeOf135, Try.isAgg135, Try.underlying135, Try.zeroValue135, by kernel_rfl, by kernel_rfl, by kernel_rfl, by kernel_rfl⟩
def ti136 : TI := ⟨1, false, (TypeDesc.func #[22, 3, 3] #[22] false), Value.nilFunc, 8, false, false, false⟩
theorem tf136 : TF Try.prog 136 ti136 := ⟨Try.sizeOf136, Try.isAgg136, Try.underlying136, Try.zeroValue136, by kernel_rfl, by kernel_rfl, by kernel_rfl, by kernel_rfl⟩
def ti137 : TI := ⟨1, false, (TypeDesc.func #[22, 3, 22] #[22] true), Value.nilFunc, 8, false, false, false⟩
theorem tf137 : TF Try.prog 137 ti137 := ⟨Try.sizeOf137, Try.isAgg137, Try.underlying137, Try.zeroValue137, by kernel_rfl, by kernel_rfl, by kernel_rfl, by kernel_rfl⟩
def ti138 : TI := ⟨1, false, (TypeDesc.func #[22, 94] #[3] false), Value.nilFunc, 8, false, false, false⟩
theorem tf138 : TF Try.prog 138 ti138 := ⟨Try.sizeOf138, Try.isAgg138, Try.underlying138, Try.zeroValue138, by kernel_rfl, by kernel_rfl, by kernel_rfl, by kernel_rfl⟩
def ti139 : TI := ⟨1, false, (TypeDesc.func #[28, 3] #[] false), Value.nilFunc, 8, false, false, false⟩
theorem tf139 : TF Try.prog 139 ti139 := ⟨Try.sizeOf139, Try.isAgg139, Try.underlying139, Try.zeroValue139, by kernel_rfl, by kernel_rfl, by kernel_rfl, by kernel_rfl⟩
def ti140 : TI := ⟨1, false, (TypeDesc.func #[30, 3, 3, 30] #[30] true), Value.nilFunc, 8, false, false, false⟩
theorem tf140 : TF Try.prog 140 ti140 := ⟨Try.sizeOf140, Try.isAgg140, Try.underlying140, Try.zeroValue140, by kernel_rfl, by kernel_rfl, by kernel_rfl, by kernel_rfl⟩
def ti141 : TI := ⟨1, false, (TypeDesc.func #[30] #[30] false), Value.nilFunc, 8, false, false, false⟩
theorem tf141 : TF Try.prog 141 ti141 := ⟨Try.sizeOf141, Try.isAgg141, Try.underlying141, Try.zeroValue141, by kernel_rfl, by kernel_rfl, by kernel_rfl, by kernel_rfl⟩
def ti142 : TI := ⟨1, false, (TypeDesc.func #[28, 143] #[3] false), Value.nilFunc, 8, false, false, false⟩
theorem tf142 : TF Try.prog 142 ti142 := ⟨Try.sizeOf142, Try.isAgg142, Try.underlying142, Try.zeroValue142, by kernel_rfl, by kernel_rfl, by kernel_rfl, by kernel_rfl⟩
def ti143 : TI := ⟨1, false, (TypeDesc.func #[41] #[4] false), Value.nilFunc, 8, false, false, false⟩
theorem tf143 : TF Try.prog 143 ti143 := ⟨Try.sizeOf143, Try.isAgg143, Try.underlying143, Try.zeroValue143, by kernel_rfl, by kernel_rfl, by kernel_rfl, by kernel_rfl⟩
def ti144 : TI := ⟨1, false, (TypeDesc.func #[28] #[4] false), Value.nilFunc, 8, false, false, false⟩
theorem tf144 : TF Try.prog 144 ti144 := ⟨Try.sizeOf144, Try.isAgg144, Try.underlying144, Try.zeroValue144, by kernel_rfl, by kernel_rfl, by kernel_rfl, by kernel_rfl⟩
def ti145 : TI := ⟨1, false, (TypeDesc.func #[63, 3, 3, 3, 115] #[] false), Value.nilFunc, 8, false, false, false⟩
theorem tf145 : TF Try.prog 145 ti145 := ⟨Try.sizeOf145, Try.isAgg145, Try.underlying145, Try.zeroValue145, by kernel_rfl, by kernel_rfl, by kernel_rfl, by kernel_rfl⟩
def ti146 : TI := ⟨1, false, (TypeDesc.func #[147] #[3] false), Value.nilFunc, 8, false, false, false⟩
theorem tf146 : TF Try.prog 146 ti146 := ⟨Try.sizeOf146, Try.isAgg146, Try.underlying146, Try.zeroValue146, by kernel_rfl, by kernel_rfl, by kernel_rfl, by kernel_rfl⟩
def ti147 : TI := ⟨1, false, (TypeDesc.int IntKind.u64), (Value.int IntKind.u64 0), 8, false, false, true⟩
theorem tf147 : TF Try.prog 147 ti147 := ⟨Try.sizeOf147, Try.isAgg147, Try.underlying147, Try.zeroValue147, by kernel_rfl, by kernel_rfl, by kernel_rfl, by kernel_rfl⟩
def ti148 : TI := ⟨1, false, (TypeDesc.slice 4), (Value.slice none 0 0), 24, false, false, false⟩
theorem tf148 : TF Try.prog 148 ti148 := ⟨Try.sizeOf148, Try.isAgg148, Try.underlying148, Try.zeroValue148, by kernel_rfl, by kernel_rfl, by kernel_rfl, by kernel_rfl⟩
def ti149 : TI := ⟨1, false, (TypeDesc.func #[39, 39] #[4] false), Value.nilFunc, 8, false, false, false⟩
theorem tf149 : TF Try.prog 149 ti149 := ⟨Try.sizeOf149, Try.isAgg149, Try.underlying149, Try.zeroValue149, by kernel_rfl, by kernel_rfl, by kernel_rfl, by kernel_rfl⟩
def ti150 : TI := ⟨1, false, (TypeDesc.func #[60, 122, 39, 39] #[4] false), Value.nilFunc, 8, false, false, false⟩
theorem tf150 : TF Try.prog 150 ti150 := ⟨Try.sizeOf150, Try.isAgg150, Try.underlying150, Try.zeroValue150, by kernel_rfl, by kernel_rfl, by kernel_rfl, by kernel_rfl⟩
def ti151 : TI := ⟨1, false, (TypeDesc.func #[77, 128] #[3] false), Value.nilFunc, 8, false, false, false⟩
theorem tf151 : TF Try.prog 151 ti151 := ⟨Try.sizeOf151, Try.isAgg151, Try.underlying151, Try.zeroValue151, by kernel_rfl, by kernel_rfl, by kernel_rfl, by kernel_rfl⟩
def ti152 : TI := ⟨1, false, (TypeDesc.func #[77, 3, 3, 3, 132] #[] false), Value.nilFunc, 8, false, false, false⟩
theorem tf152 : TF Try.prog 152 ti152 := ⟨Try.sizeOf152, Try.isAgg152, Try.underlying152, Try.zeroValue152, by kernel_rfl, by kernel_rfl, by kernel_rfl, by kernel_rfl⟩
def ti153 : TI := ⟨1, false, (TypeDesc.func #[37] #[4] false), Value.nilFunc, 8, false, false, false⟩
theorem tf153 : TF Try.prog 153 ti153 := ⟨Try.sizeOf153, Try.isAgg153, Try.underlying153, Try.zeroValue153, by kernel_rfl, by kernel_rfl, by kernel_rfl, by kernel_rfl⟩
def ti154 : TI := ⟨1, false, (TypeDesc.slice 77), (Value.slice none 0 0), 24, false, false, false⟩
theorem tf154 : TF Try.prog 154 ti154 := ⟨Try.sizeOf154, Try.isAgg154, Try.underlying154, Try.zeroValue154, by kernel_rfl, by kernel_rfl, by kernel_rfl, by kernel_rfl⟩
def ti155 : TI := ⟨1, false, (TypeDesc.func #[77, 3] #[77] false), Value.nilFunc, 8, false, false, false⟩
theorem tf155 : TF Try.prog 155 ti155 := ⟨Try.sizeOf155, Try.isAgg155, Try.underlying155, Try.zeroValue155, by kernel_rfl, by kernel_rfl, by kernel_rfl, by kernel_rfl⟩
def ti156 : TI := ⟨1, false, (TypeDesc.func #[22, 37, 157] #[3, 4] false), Value.nilFunc, 8, false, false, false⟩
theorem tf156 : TF Try.prog 156 ti156 := ⟨Try.sizeOf156, Try.isAgg156, Try.underlying156, Try.zeroValue156, by kernel_rfl, by kernel_rfl, by kernel_rfl, by kernel_rfl⟩
def ti157 : TI := ⟨1, false, (TypeDesc.func #[90, 37] #[3] false), Value.nilFunc, 8, false, false, false⟩
theorem tf157 : TF Try.prog 157 ti157 := ⟨Try.sizeOf157, Try.isAgg157, Try.underlying157, Try.zeroValue157, by kernel_rfl, by kernel_rfl, by kernel_rfl, by kernel_rfl⟩
def ti158 : TI := ⟨1, false, (TypeDesc.func #[22, 3] #[] false), Value.nilFunc, 8, false, false, false⟩
theorem tf158 : TF Try.prog 158 ti158 := ⟨Try.sizeOf158, Try.isAgg158, Try.underlying158, Try.zeroValue158, by kernel_rfl, by kernel_rfl, by kernel_rfl, by kernel_rfl⟩
def ti159 : TI := ⟨1, false, (TypeDesc.func #[30, 3, 30] #[30] true), Value.nilFunc, 8, false, false, false⟩
theorem tf159 : TF Try.prog 159 ti159 := ⟨Try.sizeOf159, Try.isAgg159, Try.underlying159, Try.zeroValue159, by kernel_rfl, by kernel_rfl, by kernel_rfl, by kernel_rfl⟩
def ti160 : TI := ⟨1, false, (TypeDesc.func #[30, 30] #[4] false), Value.nilFunc, 8, false, false, false⟩
theorem tf160 : TF Try.prog 160 ti160 := ⟨Try.sizeOf160, Try.isAgg160, Try.underlying160, Try.zeroValue160, by kernel_rfl, by kernel_rfl, by kernel_rfl, by kernel_rfl⟩
def ti161 : TI := ⟨1, false, (TypeDesc.func #[30, 3] #[] false), Value.nilFunc, 8, false, false, false⟩
theorem tf161 : TF Try.prog 161 ti161 := ⟨Try.sizeOf161, Try.isAgg161, Try.underlying161, Try.zeroValue161, by kernel_rfl, by kernel_rfl, by kernel_rfl, by kernel_rfl⟩
def ti162 : TI := ⟨1, false, (TypeDesc.func #[30, 30] #[3] false), Value.nilFunc, 8, false, false, false⟩
theorem tf162 : TF Try.prog 162 ti162 := ⟨Try.sizeOf162, Try.isAgg162, Try.underlying162, Try.zeroValue162, by kernel_rfl, by kernel_rfl, by kernel_rfl, by kernel_rfl⟩
def ti163 : TI := ⟨1, false, (TypeDesc.func #[63, 3, 3, 115] #[] false), Value.nilFunc, 8, false, false, false⟩
theorem tf163 : TF Try.prog 163 ti163 := ⟨Try.sizeOf163, Try.isAgg163, Try.underlying163, Try.zeroValue163, by kernel_rfl, by kernel_rfl, by kernel_rfl, by kernel_rfl⟩
def ti164 : TI := ⟨1, false, (TypeDesc.int IntKind.i64), (Value.int IntKind.i64 0), 8, false, false, true⟩
theorem tf164 : TF Try.prog 164 ti164 := ⟨Try.sizeOf164, Try.isAgg164, Try.underlying164, Try.zeroValue164, by kernel_rfl, by kernel_rfl, by kernel_rfl, by kernel_rfl⟩
def ti166 : TI := ⟨1, false, (TypeDesc.func #[63, 3, 3, 115] #[3, 164] false), Value.nilFunc, 8, false, false, false⟩
theorem tf166 : TF Try.prog 166 ti166 := ⟨Try.sizeOf166, Try.isAgg166, Try.underlying166, Try.zeroValue166, by kernel_rfl, by kernel_rfl, by kernel_rfl, by kernel_rfl⟩
def ti167 : TI := ⟨1, false, (TypeDesc.func #[63, 3, 3, 115] #[4] false), Value.nilFunc, 8, false, false, false⟩
theorem tf167 : TF Try.prog 167 ti167 := ⟨Try.sizeOf167, Try.isAgg167, Try.underlying167, Try.zeroValue167, by kernel_rfl, by kernel_rfl, by kernel_rfl, by kernel_rfl⟩
def ti168 : TI := ⟨1, false, (TypeDesc.func #[63, 3, 3, 3, 115] #[3] false), Value.nilFunc, 8, false, false, false⟩
theorem tf168 : TF Try.prog 168 ti168 := ⟨Try.sizeOf168, Try.isAgg168, Try.underlying168, Try.zeroValue168, by kernel_rfl, by kernel_rfl, by kernel_rfl, by kernel_rfl⟩
def ti169 : TI := ⟨1, false, (TypeDesc.func #[63, 3, 3, 3, 115] #[3, 4] false), Value.nilFunc, 8, false, false, false⟩
theorem tf169 : TF Try.prog 169 ti169 := ⟨Try.sizeOf169, Try.isAgg169, Try.underlying169, Try.zeroValue169, by kernel_rfl, by kernel_rfl, by kernel_rfl, by kernel_rfl⟩
def ti170 : TI := ⟨1, false, (TypeDesc.func #[37] #[3] false), Value.nilFunc, 8, false, false, false⟩
theorem tf170 : TF Try.prog 170 ti170 := ⟨Try.sizeOf170, Try.isAgg170, Try.underlying170, Try.zeroValue170, by kernel_rfl, by kernel_rfl, by kernel_rfl, by kernel_rfl⟩
def ti171 : TI := ⟨1, false, (TypeDesc.func #[83] #[3] false), Value.nilFunc, 8, false, false, false⟩
theorem tf171 : TF Try.prog 171 ti171 := ⟨Try.sizeOf171, Try.isAgg171, Try.underlying171, Try.zeroValue171, by kernel_rfl, by kernel_rfl, by kernel_rfl, by kernel_rfl⟩
def ti172 : TI := ⟨1, false, (TypeDesc.func #[77, 3, 3, 132] #[] false), Value.nilFunc, 8, false, false, false⟩
theorem tf172 : TF Try.prog 172 ti172 := ⟨Try.sizeOf172, Try.isAgg172, Try.underlying172, Try.zeroValue172, by kernel_rfl, by kernel_rfl, by kernel_rfl, by kernel_rfl⟩
def ti173 : TI := ⟨1, false, (TypeDesc.func #[77, 3, 3, 132] #[3, 164] false), Value.nilFunc, 8, false, false, false⟩
theorem tf173 : TF Try.prog 173 ti173 := ⟨Try.sizeOf173, Try.isAgg173, Try.underlying173, Try.zeroValue173, by kernel_rfl, by kernel_rfl, by kernel_rfl, by kernel_rfl⟩
def ti174 : TI := ⟨1, false, (TypeDesc.func #[77, 3, 3, 132] #[4] false), Value.nilFunc, 8, false, false, false⟩
theorem tf174 : TF Try.prog 174 ti174 := ⟨Try.sizeOf174, Try.isAgg174, Try.underlying174, Try.zeroValue174, by kernel_rfl, by kernel_rfl, by kernel_rfl, by kernel_rfl⟩
def ti175 : TI := ⟨1, false, (TypeDesc.func #[77, 3, 3, 3, 132] #[3] false), Value.nilFunc, 8, false, false, false⟩
theorem tf175 : TF Try.prog 175 ti175 := ⟨Try.sizeOf175, Try.isAgg175, Try.underlying175, Try.zeroValue175, by kernel_rfl, by kernel_rfl, by kernel_rfl, by kernel_rfl⟩
def ti176 : TI := ⟨1, false, (TypeDesc.func #[77, 3, 3, 3, 132] #[3, 4] false), Value.nilFunc, 8, false, false, false⟩
theorem tf176 : TF Try.prog 176 ti176 := ⟨Try.sizeOf176, Try.isAgg176, Try.underlying176, Try.zeroValue176, by kernel_rfl, by kernel_rfl, by kernel_rfl, by kernel_rfl⟩
def ti177 : TI := ⟨1, false, (TypeDesc.func #[28] #[] false), Value.nilFunc, 8, false, false, false⟩
theorem tf177 : TF Try.prog 177 ti177 := ⟨Try.sizeOf177, Try.isAgg177, Try.underlying177, Try.zeroValue177, by kernel_rfl, by kernel_rfl, by kernel_rfl, by kernel_rfl⟩
def ti178 : TI := ⟨1, false, (TypeDesc.pointer 97), (Value.pointer none), 8, false, false, true⟩
theorem tf178 : TF Try.prog 178 ti178 := ⟨Try.sizeOf178, Try.isAgg178, Try.underlying178, Try.zeroValue178, by kernel_rfl, by kernel_rfl, by kernel_rfl, by kernel_rfl⟩
def ti179 : TI := ⟨1, false, (TypeDesc.int IntKind.u64), (Value.int IntKind.u64 0), 8, false, false, true⟩
theorem tf179 : TF Try.prog 179 ti179 := ⟨Try.sizeOf179, Try.isAgg179, Try.underlying179, Try.zeroValue179, by kernel_rfl, by kernel_rfl, by kernel_rfl, by kernel_rfl⟩
def ti180 : TI := ⟨1, false, (TypeDesc.func #[3] #[147] false), Value.nilFunc, 8, false, false, false⟩
theorem tf180 : TF Try.prog 180 ti180 := ⟨Try.sizeOf180, Try.isAgg180, Try.underlying180, Try.zeroValue180, by kernel_rfl, by kernel_rfl, by kernel_rfl, by kernel_rfl⟩
def ti181 : TI := ⟨1, false, (TypeDesc.func #[] #[83] false), Value.nilFunc, 8, false, false, false⟩
theorem tf181 : TF Try.prog 181 ti181 := ⟨Try.sizeOf181, Try.isAgg181, Try.underlying181, Try.zeroValue181, by kernel_rfl, by kernel_rfl, by kernel_rfl, by kernel_rfl⟩
def ti182 : TI := ⟨1, false, (TypeDesc.func #[63, 3, 183, 115] #[3] false), Value.nilFunc, 8, false, false, false⟩
theorem tf182 : TF Try.prog 182 ti182 := ⟨Try.sizeOf182, Try.isAgg182, Try.underlying182, Try.zeroValue182, by kernel_rfl, by kernel_rfl, by kernel_rfl, by kernel_rfl⟩
def ti183 : TI := ⟨1, false, (TypeDesc.pointer 3), (Value.pointer none), 8, false, false, true⟩
theorem tf183 : TF Try.prog 183 ti183 := ⟨Try.sizeOf183, Try.isAgg183, Try.underlying183, Try.zeroValue183, by kernel_rfl, by kernel_rfl, by kernel_rfl, by kernel_rfl⟩
def ti184 : TI := ⟨1, false, (TypeDesc.func #[63, 3, 3, 3, 183, 115] #[3] false), Value.nilFunc, 8, false, false, false⟩
theorem tf184 : TF Try.prog 184 ti184 := ⟨Try.sizeOf184, Try.isAgg184, Try.underlying184, Try.zeroValue184, by kernel_rfl, by kernel_rfl, by kernel_rfl, by kernel_rfl⟩
def ti185 : TI := ⟨1, false, (TypeDesc.func #[77, 3, 183, 132] #[3] false), Value.nilFunc, 8, false, false, false⟩
theorem tf185 : TF Try.prog 185 ti185 := ⟨Try.sizeOf185, Try.isAgg185, Try.underlying185, Try.zeroValue185, by kernel_rfl, by kernel_rfl, by kernel_rfl, by kernel_rfl⟩
def ti186 : TI := ⟨1, false, (TypeDesc.func #[77, 3, 3, 3, 183, 132] #[3] false), Value.nilFunc, 8, false, false, false⟩
theorem tf186 : TF Try.prog 186 ti186 := ⟨Try.sizeOf186, Try.isAgg186, Try.underlying186, Try.zeroValue186, by kernel_rfl, by kernel_rfl, by kernel_rfl, by kernel_rfl⟩
def ti187 : TI := ⟨1, false, (TypeDesc.func #[22] #[] false), Value.nilFunc, 8, false, false, false⟩
theorem tf187 : TF Try.prog 187 ti187 := ⟨Try.sizeOf187, Try.isAgg187, Try.underlying187, Try.zeroValue187, by kernel_rfl, by kernel_rfl, by kernel_rfl, by kernel_rfl⟩
def ti188 : TI := ⟨1, false, (TypeDesc.func #[30] #[] false), Value.nilFunc, 8, false, false, false⟩
theorem tf188 : TF Try.prog 188 ti188 := ⟨Try.sizeOf188, Try.isAgg188, Try.underlying188, Try.zeroValue188, by kernel_rfl, by kernel_rfl, by kernel_rfl, by kernel_rfl⟩
def ti189 : TI := ⟨1, false, (TypeDesc.pointer 179), (Value.pointer none), 8, false, false, true⟩
theorem tf189 : TF Try.prog 189 ti189 := ⟨Try.sizeOf189, Try.isAgg189, Try.underlying189, Try.zeroValue189, by kernel_rfl, by kernel_rfl, by kernel_rfl, by kernel_rfl⟩
def ti191 : TI := ⟨1, false, (TypeDesc.func #[63, 3, 3, 183, 115] #[3, 3] false), Value.nilFunc, 8, false, false, false⟩
theorem tf191 : TF Try.prog 191 ti191 := ⟨Try.sizeOf191, Try.isAgg191, Try.underlying191, Try.zeroValue191, by kernel_rfl, by kernel_rfl, by kernel_rfl, by kernel_rfl⟩
def ti192 : TI := ⟨1, false, (TypeDesc.func #[77, 3, 3, 183, 132] #[3, 3] false), Value.nilFunc, 8, false, false, false⟩
theorem tf192 : TF Try.prog 192 ti192 := ⟨Try.sizeOf192, Try.isAgg192, Try.underlying192, Try.zeroValue192, by kernel_rfl, by kernel_rfl, by kernel_rfl, by kernel_rfl⟩
def ti193 : TI := ⟨1, false, (TypeDesc.func #[] #[9] false), Value.nilFunc, 8, false, false, false⟩
theorem tf193 : TF Try.prog 193 ti193 := ⟨Try.sizeOf193, Try.isAgg193, Try.underlying193, Try.zeroValue193, by kernel_rfl, by kernel_rfl, by kernel_rfl, by kernel_rfl⟩
def ti199 : TI := ⟨1, false, (TypeDesc.int IntKind.u8), (Value.int IntKind.u8 0), 1, false, false, true⟩
theorem tf199 : TF Try.prog 199 ti199 := ⟨Try.sizeOf199, Try.isAgg199, Try.underlying199, Try.zeroValue199, by kernel_rfl, by kernel_rfl, by kernel_rfl, by kernel_rfl⟩
def ti200 : TI := ⟨1, false, (TypeDesc.int IntKind.u8), (Value.int IntKind.u8 0), 1, false, false, true⟩
theorem tf200 : TF Try.prog 200 ti200 := ⟨Try.sizeOf200, Try.isAgg200, Try.underlying200, Try.zeroValue200, by kernel_rfl, by kernel_rfl, by kernel_rfl, by kernel_rfl⟩
def ti201 : TI := ⟨1, false, (TypeDesc.func #[207, 207] #[4] false), Value.nilFunc, 8, false, false, false⟩
theorem tf201 : TF Try.prog 201 ti201 := ⟨Try.sizeOf201, Try.isAgg201, Try.underlying201, Try.zeroValue201, by kernel_rfl, by kernel_rfl, by kernel_rfl, by kernel_rfl⟩
def ti202 : TI := ⟨1, false, (TypeDesc.pointer 5), (Value.pointer none), 8, false, false, true⟩
theorem tf202 : TF Try.prog 202 ti202 := ⟨Try.sizeOf202, Try.isAgg202, Try.underlying202, Try.zeroValue202, by kernel_rfl, by kernel_rfl, by kernel_rfl, by kernel_rfl⟩
def ti203 : TI := ⟨1, false, (TypeDesc.int IntKind.i32), (Value.int IntKind.i32 0), 4, false, false, true⟩
theorem tf203 : TF Try.prog 203 ti203 := ⟨Try.sizeOf203, Try.isAgg203, Try.underlying203, Try.zeroValue203, by kernel_rfl, by kernel_rfl, by kernel_rfl, by kernel_rfl⟩
def ti204 : TI := ⟨1, false, (TypeDesc.int IntKind.i32), (Value.int IntKind.i32 0), 4, false, false, true⟩
theorem tf204 : TF Try.prog 204 ti204 := ⟨Try.sizeOf204, Try.isAgg204, Try.underlying204, Try.zeroValue204, by kernel_rfl, by kernel_rfl, by kernel_rfl, by kernel_rfl⟩
def tt : TT := [(1, ti1), (2, ti2), (3, ti3), (4, ti4), (5, ti5), (6, ti6), (9, ti9), (10, ti10), (11, ti11), (12, ti12), (15, ti15), (16, ti16), (17, ti17), (20, ti20), (21, ti21), (22, ti22), (23, ti23), (24, ti24), (25, ti25), (26, ti26), (27, ti27), (28, ti28), (29, ti29), (30, ti30), (31, ti31), (32, ti32), (33, ti33), (34, ti34), (36, ti36), (37, ti37), (38, ti38), (39, ti39), (40, ti40), (41, ti41), (42, ti42), (43, ti43), (44, ti44), (46, ti46), (48, ti48), (50, ti50), (51, ti51), (52, ti52), (53, ti53), (54, ti54), (55, ti55), (56, ti56), (57, ti57), (58, ti58), (59, ti59), (60, ti60), (61, ti61), (62, ti62), (63, ti63), (64, ti64), (65, ti65), (66, ti66), (67, ti67), (68, ti68), (69, ti69), (70, ti70), (71, ti71), (72, ti72), (73, ti73), (74, ti74), (75, ti75), (76, ti76), (77, ti77), (78, ti78), (79, ti79), (80, ti80), (81, ti81), (82, ti82), (83, ti83), (84, ti84), (85, ti85), (86, ti86), (87, ti87), (88, ti88), (89, ti89), (90, ti90), (91, ti91), (92, ti92), (93, ti93), (94, ti94), (95, ti95), (96, ti96), (97, ti97), (98, ti98), (99, ti99), (100, ti100), (102, ti102), (103, ti103), (104, ti104), (105, ti105), (106, ti106), (107, ti107), (108, ti108), (109, ti109), (110, ti110), (111, ti111), (112, ti112), (113, ti113), (114, ti114), (115, ti115), (116, ti116), (117, ti117), (118, ti118), (119, ti119), (120, ti120), (121, ti121), (122, ti122), (123, ti123), (124, ti124), (125, ti125), (126, ti126), (127, ti127), (128, ti128), (129, ti129), (130, ti130), (131, ti131), (132, ti132), (133, ti133), (134, ti134), (135, ti135), (136, ti136), (137, ti137), (138, ti138), (139, ti139), (140, ti140), (141, ti141), (142, ti142), (143, ti143), (144, ti144), (145, ti145), (146, ti146), (147, ti147), (148, ti148), (149, ti149), (150, ti150), (151, ti151), (152, ti152), (153, ti153), (154, ti154), (155, ti155), (156, ti156), (157, ti157), (158, ti158), (159, ti159), (160, ti160), (161, ti161), (162, ti162), (163, ti163), (164, ti164), (166, ti166), (167, ti167), (168, ti168), (169, ti169), (170, ti170), (171, ti171), (172, ti172), (173, ti173), (174, ti174), (175, ti175), (176, ti176), (177, ti177), (178, ti178), (179, ti179), (180, ti180), (181, ti181), (182, ti182), (183, ti183), (184, ti184), (185, ti185), (186, ti186), (187, ti187), (188, ti188), (189, ti189), (191, ti191), (192, ti192), (193, ti193), (199, ti199), (200, ti200), (201, ti201), (202, ti202), (203, ti203), (204, ti204)]
theorem ttok : TTok Try.prog tt := TTok.cons tf1 (TTok.cons tf2 (TTok.cons tf3 (TTok.cons tf4 (TTok.cons tf5 (TTok.cons tf6 (TTok.cons tf9 (TTok.cons tf10 (TTok.cons tf11 (TTok.cons tf12 (TTok.cons tf15 (TTok.cons tf16 (TTok.cons tf17 (TTok.cons tf20 (TTok.cons tf21 (TTok.cons tf22 (TTok.cons tf23 (TTok.cons tf24 (TTok.cons tf25 (TTok.cons tf26 (TTok.cons tf27 (TTok.cons tf28 (TTok.cons tf29 (TTok.cons tf30 (TTok.cons tf31 (TTok.cons tf32 (TTok.cons tf33 (TTok.cons tf34 (TTok.cons tf36 (TTok.cons tf37 (TTok.cons tf38 (TTok.cons tf39 (TTok.cons tf40 (TTok.cons tf41 (TTok.cons tf42 (TTok.cons tf43 (TTok.cons tf44 (TTok.cons tf46 (TTok.cons tf48 (TTok.cons tf50 (TTok.cons tf51 (TTok.cons tf52 (TTok.cons tf53 (TTok.cons tf54 (TTok.cons tf55 (TTok.cons tf56 (TTok.cons tf57 (TTok.cons tf58 (TTok.cons tf59 (TTok.cons tf60 (TTok.cons tf61 (TTok.cons tf62 (TTok.cons tf63 (TTok.cons tf64 (TTok.cons tf65 (TTok.cons tf66 (TTok.cons tf67 (TTok.cons tf68 (TTok.cons tf69 (TTok.cons tf70 (TTok.cons tf71 (TTok.cons tf72 (TTok.cons tf73 (TTok.cons tf74 (TTok.cons tf75 (TTok.cons tf76 (TTok.cons tf77 (TTok.cons tf78 (TTok.cons tf79 (TTok.cons tf80 (TTok.cons tf81 (TTok.cons tf82 (TTok.cons tf83 (TTok.cons tf84 (TTok.cons tf85 (TTok.cons tf86 (TTok.cons tf87 (TTok.cons tf88 (TTok.cons tf89 (TTok.cons tf90 (TTok.cons tf91 (TTok.cons tf92 (TTok.cons tf93 (TTok.cons tf94 (TTok.cons tf95 (TTok.cons tf96 (TTok.cons tf97 (TTok.cons tf98 (TTok.cons tf99 (TTok.cons tf100 (TTok.cons tf102 (TTok.cons tf103 (TTok.cons tf104 (TTok.cons tf105 (TTok.cons tf106 (TTok.cons tf107 (TTok.cons tf108 (TTok.cons tf109 (TTok.cons tf110 (TTok.cons tf111 (TTok.cons tf112 (TTok.cons tf113 (TTok.cons tf114 (TTok.cons tf115 (TTok.cons tf116 (TTok.cons tf117 (TTok.cons tf118 (TTok.cons tf119 (TTok.cons tf120 (TTok.cons tf121 (TTok.cons tf122 (TTok.cons tf123 (TTok.cons tf124 (TTok.cons tf125 (TTok.cons tf126 (TTok.cons tf127 (TTok.cons tf128 (TTok.cons tf129 (TTok.cons tf130 (TTok.cons tf131 (TTok.cons tf132 (TTok.cons tf133 (TTok.cons tf134 (TTok.cons tf135 (TTok.cons tf136 (TTok.cons tf137 (TTok.cons tf138 (TTok.cons tf139 (TTok.cons tf140 (TTok.cons tf141 (TTok.cons tf142 (TTok.cons tf143 (TTok.cons tf144 (TTok.cons tf145 (TTok.cons tf146 (TTok.cons tf147 (TTok.cons tf148 (TTok.cons tf149 (TTok.cons tf150 (TTok.cons tf151 (TTok.cons tf152 (TTok.cons tf153 (TTok.cons tf154 (TTok.cons tf155 (TTok.cons tf156 (TTok.cons tf157 (TTok.cons tf158 (TTok.cons tf159 (TTok.cons tf160 (TTok.cons tf161 (TTok.cons tf162 (TTok.cons tf163 (TTok.cons tf164 (TTok.cons tf166 (TTok.cons tf167 (TTok.cons tf168 (TTok.cons tf169 (TTok.cons tf170 (TTok.cons tf171 (TTok.cons tf172 (TTok.cons tf173 (TTok.cons tf174 (TTok.cons tf175 (TTok.cons tf176 (TTok.cons tf177 (TTok.cons tf178 (TTok.cons tf179 (TTok.cons tf180 (TTok.cons tf181 (TTok.cons tf182 (TTok.cons tf183 (TTok.cons tf184 (TTok.cons tf185 (TTok.cons tf186 (TTok.cons tf187 (TTok.cons tf188 (TTok.cons tf189 (TTok.cons tf191 (TTok.cons tf192 (TTok.cons tf193 (TTok.cons tf199 (TTok.cons tf200 (TTok.cons tf201 (TTok.cons tf202 (TTok.cons tf203 (TTok.cons tf204 (TTok.nil))))))))))))))))))))))))))))))))))))))))))))))))))))))))))))))))))))))))))))))))))))))))))))))))))))))))))))))))))))))))))))))))))))))))))))))))))))))))))))))))))))))))))))))))))))))))))
end Go.Eng
/- The functions of the seat. -/
set_option maxRecDepth 100000
namespace Go.Eng
open Go Go.RowKit Go.Proofs
def ft : FL := [(3, some true), (4, some true), (5, some true), (6, some true), (7, some true), (8, some true), (9, some true), (10, some true), (11, some true), (12, some true), (13, some true), (14, some true), (15, some true), (16, some true), (17, some true), (18, some true), (19, some true), (20, some true), (21, some true), (22, some true), (23, some true), (24, some true), (25, some true), (26, some true), (27, some true), (28, some true), (29, some true), (30, some true), (31, some true), (32, some true), (33, some true), (34, some true), (35, some true), (36, some false), (37, some true), (38, some true), (39, some true), (40, some true), (41, some true), (42, some true), (43, some true), (44, some true), (45, some true), (46, some true), (47, some true), (48, some true), (49, some true), (50, some true), (51, some true), (52, some true), (53, some true), (54, some true), (55, some false), (56, some true), (57, some true), (58, some true), (59, some true), (60, some true), (61, some true), (62, some true), (63, some true), (64, some true), (65, some true), (66, some true), (67, some false), (68, some true), (69, some true), (70, some true), (71, some true), (72, some true), (73, some false), (74, some true), (75, some true), (76, some true), (77, some false), (78, some true), (79, some false), (80, some true), (81, some true), (82, some false), (83, some true), (84, some true), (85, some true), (86, some true), (87, some true), (88, some true), (89, some true), (90, some false), (91, some false), (92, some true), (93, none), (94, some false), (95, some false), (96, some true), (97, some true), (98, some true), (99, some true), (100, some false), (101, some true), (102, some true), (103, some true), (104, some true), (105, some false), (106, some true), (107, some false), (108, some true), (109, some true), (110, none), (111, some false), (112, some false), (113, some false), (114, none), (115, some false), (116, some true), (117, some false), (118, some false), (119, some false), (120, some false), (121, some false), (122, some false), (123, some false), (124, some false), (125, some true), (126, some true), (127, some false), (128, some false), (129, some false), (130, some false), (131, some false), (132, some false), (133, some false), (134, some false), (135, some false), (136, some true), (137, some false), (138, some false), (139, some true), (140, some true), (141, some false), (142, some false), (143, some false), (144, some false), (145, some false), (146, some true), (147, some true), (148, some false), (149, some false), (165, none)]
theorem ftok : FTok Try.prog ft := FTok.cons Try.func3 (by kernel_rfl) rfl (FTok.cons Try.func4 (by kernel_rfl) rfl (FTok.cons Try.func5 (by kernel_rfl) rfl (FTok.cons Try.func6 (by kernel_rfl) rfl (FTok.cons Try.func7 (by kernel_rfl) rfl (FTok.cons Try.func8 (by kernel_rfl) rfl (FTok.cons Try.func9 (by kernel_rfl) rfl (FTok.cons Try.func10 (by kernel_rfl) rfl (FTok.cons Try.func11 (by kernel_rfl) rfl (FTok.cons Try.func12 (by kernel_rfl) rfl (FTok.cons Try.func13 (by kernel_rfl) rfl (FTok.cons Try.func14 (by kernel_rfl) rfl (FTok.cons Try.func15 (by kernel_rfl) rfl (FTok.cons Try.func16 (by kernel_rfl) rfl (FTok.cons Try.func17 (by kernel_rfl) rfl (FTok.cons Try.func18 (by kernel_rfl) rfl (FTok.cons Try.func19 (by kernel_rfl) rfl (FTok.cons Try.func20 (by kernel_rfl) rfl (FTok.cons Try.func21 (by kernel_rfl) rfl (FTok.cons Try.func22 (by kernel_rfl) rfl (FTok.cons Try.func23 (by kernel_rfl) rfl (FTok.cons Try.func24 (by kernel_rfl) rfl (FTok.cons Try.func25 (by kernel_rfl) rfl (FTok.cons Try.func26 (by kernel_rfl) rfl (FTok.cons Try.func27 (by kernel_rfl) rfl (FTok.cons Try.func28 (by kernel_rfl) rfl (FTok.cons Try.func29 (by kernel_rfl) rfl (FTok.cons Try.func30 (by kernel_rfl) rfl (FTok.cons Try.func31 (by kernel_rfl) rfl (FTok.cons Try.func32 (by kernel_rfl) rfl (FTok.cons Try.func33 (by kernel_rfl) rfl (FTok.cons Try.func34 (by kernel_rfl) rfl (FTok.cons Try.func35 (by kernel_rfl) rfl (FTok.cons Try.func36 (by kernel_rfl) rfl (FTok.cons Try.func37 (by kernel_rfl) rfl (FTok.cons Try.func38 (by kernel_rfl) rfl (FTok.cons Try.func39 (by kernel_rfl) rfl (FTok.cons Try.func40 (by kernel_rfl) rfl (FTok.cons Try.func41 (by kernel_rfl) rfl (FTok.cons Try.func42 (by kernel_rfl) rfl (FTok.cons Try.func43 (by kernel_rfl) rfl (FTok.cons Try.func44 (by kernel_rfl) rfl (FTok.cons Try.func45 (by kernel_rfl) rfl (FTok.cons Try.func46 (by kernel_rfl) rfl (FTok.cons Try.func47 (by kernel_rfl) rfl (FTok.cons Try.func48 (by kernel_rfl) rfl (FTok.cons Try.func49 (by kernel_rfl) rfl (FTok.cons Try.func50 (by kernel_rfl) rfl (FTok.cons Try.func51 (by kernel_rfl) rfl (FTok.cons Try.func52 (by kernel_rfl) rfl (FTok.cons Try.func53 (by kernel_rfl) rfl (FTok.cons Try.func54 (by kernel_rfl) rfl (FTok.cons Try.func55 (by kernel_rfl) rfl (FTok.cons Try.func56 (by kernel_rfl) rfl (FTok.cons Try.func57 (by kernel_rfl) rfl (FTok.cons Try.func58 (by kernel_rfl) rfl (FTok.cons Try.func59 (by kernel_rfl) rfl (FTok.cons Try.func60 (by kernel_rfl) rfl (FTok.cons Try.func61 (by kernel_rfl) rfl (FTok.cons Try.func62 (by kernel_rfl) rfl (FTok.cons Try.func63 (by kernel_rfl) rfl (FTok.cons Try.func64 (by kernel_rfl) rfl (FTok.cons Try.func65 (by kernel_rfl) rfl (FTok.cons Try.func66 (by kernel_rfl) rfl (FTok.cons Try.func67 (by kernel_rfl) rfl (FTok.cons Try.func68 (by kernel_rfl) rfl (FTok.cons Try.func69 (by kernel_rfl) rfl (FTok.cons Try.func70 (by kernel_rfl) rfl (FTok.cons Try.func71 (by kernel_rfl) rfl (FTok.cons Try.func72 (by kernel_rfl) rfl (FTok.cons Try.func73 (by kernel_rfl) rfl (FTok.cons Try.func74 (by kernel_rfl) rfl (FTok.cons Try.func75 (by kernel_rfl) rfl (FTok.cons Try.func76 (by kernel_rfl) rfl (FTok.cons Try.func77 (by kernel_rfl) rfl (FTok.cons Try.func78 (by kernel_rfl) rfl (FTok.cons Try.func79 (by kernel_rfl) rfl (FTok.cons Try.func80 (by kernel_rfl) rfl (FTok.cons Try.func81 (by kernel_rfl) rfl (FTok.cons Try.func82 (by kernel_rfl) rfl (FTok.cons Try.func83 (by kernel_rfl) rfl (FTok.cons Try.func84 (by kernel_rfl) rfl (FTok.cons Try.func85 (by kernel_rfl) rfl (FTok.cons Try.func86 (by kernel_rfl) rfl (FTok.cons Try.func87 (by kernel_rfl) rfl (FTok.cons Try.func88 (by kernel_rfl) rfl (FTok.cons Try.func89 (by kernel_rfl) rfl (FTok.cons Try.func90 (by kernel_rfl) rfl (FTok.cons Try.func91 (by kernel_rfl) rfl (FTok.cons Try.func92 (by kernel_rfl) rfl (FTok.consX (FTok.cons Try.func94 (by kernel_rfl) rfl (FTok.cons Try.func95 (by kernel_rfl) rfl (FTok.cons Try.func96 (by kernel_rfl) rfl (FTok.cons Try.func97 (by kernel_rfl) rfl (FTok.cons Try.func98 (by kernel_rfl) rfl (FTok.cons Try.func99 (by kernel_rfl) rfl (FTok.cons Try.func100 (by kernel_rfl) rfl (FTok.cons Try.func101 (by kernel_rfl) rfl (FTok.cons Try.func102 (by kernel_rfl) rfl (FTok.cons Try.func103 (by kernel_rfl) rfl (FTok.cons Try.func104 (by kernel_rfl) rfl (FTok.cons Try.func105 (by kernel_rfl) rfl (FTok.cons Try.func106 (by kernel_rfl) rfl (FTok.cons Try.func107 (by kernel_rfl) rfl (FTok.cons Try.func108 (by kernel_rfl) rfl (FTok.cons Try.func109 (by kernel_rfl) rfl (FTok.consX (FTok.cons Try.func111 (by kernel_rfl) rfl (FTok.cons Try.func112 (by kernel_rfl) rfl (FTok.cons Try.func113 (by kernel_rfl) rfl (FTok.consX (FTok.cons Try.func115 (by kernel_rfl) rfl (FTok.cons Try.func116 (by kernel_rfl) rfl (FTok.cons Try.func117 (by kernel_rfl) rfl (FTok.cons Try.func118 (by kernel_rfl) rfl (FTok.cons Try.func119 (by kernel_rfl) rfl (FTok.cons Try.func120 (by kernel_rfl) rfl (FTok.cons Try.func121 (by kernel_rfl) rfl (FTok.cons Try.func122 (by kernel_rfl) rfl (FTok.cons Try.func123 (by kernel_rfl) rfl (FTok.cons Try.func124 (by kernel_rfl) rfl (FTok.cons Try.func125 (by kernel_rfl) rfl (FTok.cons Try.func126 (by kernel_rfl) rfl (FTok.cons Try.func127 (by kernel_rfl) rfl (FTok.cons Try.func128 (by kernel_rfl) rfl (FTok.cons Try.func129 (by kernel_rfl) rfl (FTok.cons Try.func130 (by kernel_rfl) rfl (FTok.cons Try.func131 (by kernel_rfl) rfl (FTok.cons Try.func132 (by kernel_rfl) rfl (FTok.cons Try.func133 (by kernel_rfl) rfl (FTok.cons Try.func134 (by kernel_rfl) rfl (FTok.cons Try.func135 (by kernel_rfl) rfl (FTok.cons Try.func136 (by kernel_rfl) rfl (FTok.cons Try.func137 (by kernel_rfl) rfl (FTok.cons Try.func138 (by kernel_rfl) rfl (FTok.cons Try.func139 (by kernel_rfl) rfl (FTok.cons Try.func140 (by kernel_rfl) rfl (FTok.cons Try.func141 (by kernel_rfl) rfl (FTok.cons Try.func142 (by kernel_rfl) rfl (FTok.cons Try.func143 (by kernel_rfl) rfl (FTok.cons Try.func144 (by kernel_rfl) rfl (FTok.cons Try.func145 (by kernel_rfl) rfl (FTok.cons Try.func146 (by kernel_rfl) rfl (FTok.cons Try.func147 (by kernel_rfl) rfl (FTok.cons Try.func148 (by kernel_rfl) rfl (FTok.cons Try.func149 (by kernel_rfl) rfl (FTok.consX (FTok.nil))))))))))))))))))))))))))))))))))))))))))))))))))))))))))))))))))))))))))))))))))))))))))))))))))))))))))))))))))))))))))))))))))))))))))))))))))))
theorem mixed : Try.prog.follows .mixedOrders = true := by kernel_rfl
end Go.Eng
namespace Go.Eng
open Go
theorem w_u32 (x : Int) : IntKind.u32.wrap x = x % 4294967296 := by unfold IntKind.wrap IntKind.bits IntKind.signed; simp
theorem w_u64 (x : Int) : IntKind.u64.wrap x = x % 18446744073709551616 := by unfold IntKind.wrap IntKind.bits IntKind.signed; simp
theorem w_u16 (x : Int) : IntKind.u16.wrap x = x % 65536 := by unfold IntKind.wrap IntKind.bits IntKind.signed; simp
theorem w_u8 (x : Int) : IntKind.u8.wrap x = x % 256 := by unfold IntKind.wrap IntKind.bits IntKind.signed; simp
theorem w_i64 {x : Int} (h1 : -9223372036854775808 ≤ x) (h2 : x ≤ 9223372036854775807) : IntKind.i64.wrap x = x := by
  unfold IntKind.wrap IntKind.bits IntKind.signed
  simp
  split <;> omega
theorem wf_u32 {n : Int} (h : (Lit.int .u32 n).wf = true) : 0 ≤ n ∧ n ≤ 4294967295 := by
  simp [Lit.wf, IntKind.min, IntKind.max, IntKind.bits, IntKind.signed] at h
  omega
theorem wf_u16 {n : Int} (h : (Lit.int .u16 n).wf = true) : 0 ≤ n ∧ n ≤ 65535 := by
  simp [Lit.wf, IntKind.min, IntKind.max, IntKind.bits, IntKind.signed] at h
  omega
theorem wf_u8 {n : Int} (h : (Lit.int .u8 n).wf = true) : 0 ≤ n ∧ n ≤ 255 := by
  simp [Lit.wf, IntKind.min, IntKind.max, IntKind.bits, IntKind.signed] at h
  omega
theorem wf_u64 {n : Int} (h : (Lit.int .u64 n).wf = true) : 0 ≤ n ∧ n ≤ 18446744073709551615 := by
  simp [Lit.wf, IntKind.min, IntKind.max, IntKind.bits, IntKind.signed] at h
  omega
theorem wf_i64 {n : Int} (h : (Lit.int .i64 n).wf = true) : -9223372036854775808 ≤ n ∧ n ≤ 9223372036854775807 := by
  simp [Lit.wf, IntKind.min, IntKind.max, IntKind.bits, IntKind.signed] at h
  omega
end Go.Eng
set_option linter.unusedVariables false
namespace Go.Eng
open Go Go.RowKit Go.Proofs
abbrev vu (n : Int) : IC := .v (.int .u32 n)
abbrev vi (n : Int) : IC := .v (.int .i64 n)
abbrev vr (n : Int) : IC := .v (.int .i32 n)
abbrev vci (k : IntKind) (n : Int) : AV := .c (.v (.int k n))
abbrev vcb (b : Bool) : AV := .c (.v (.bool b))
abbrev vcs (s : ByteArray) : AV := .c (.v (.string s))
abbrev nilS : AV := .c (.v (.slice none 0 0))
abbrev rns (l : List Int) : AV := .c (.sl 1 l.length (runeF l))
theorem getD_take {α : Type} (l : List α) (n j : Nat) (d : α) (h : j < n) : (l.take n).getD j d = l.getD j d := by simp only [List.getD_eq_getElem?_getD, List.getElem?_take, if_pos h]
theorem getD_drop {α : Type} (l : List α) (i j : Nat) (d : α) : (l.drop i).getD j d = l.getD (i + j) d := by simp only [List.getD_eq_getElem?_getD, List.getElem?_drop]
theorem ti_nat (n : Nat) : (n : Int).toNat = n := Int.toNat_natCast n
/-- An append of one element. -/
theorem app1 {α : Type} {enc : α → List IC} {d : α} {l : List α} {f g : Nat → List IC} {K : Nat → (Nat → List IC) → Prop} (a : α) (hf : ∀ k, k < l.length → f k = enc (l.getD k d)) (hg : g 0 = enc a) (h : K (l ++ [a]).length fun k => enc ((l ++ [a]).getD k d)) :
    ∃ (n' : Nat) (f' : Nat → List IC), n' = l.length + 1 ∧ (∀ k, k < l.length → f' k = f k) ∧ (∀ k, k < 1 → f' (l.length + k) = g k) ∧ K n' f' := by
  refine ⟨_, _, by simp, fun k hk => ?_, fun k hk => ?_, h⟩
  · rw [hf k hk]
    simp [List.getD_eq_getElem?_getD, List.getElem?_append_left hk]
  · obtain rfl : k = 0 := by omega
    rw [hg]
    simp [List.getD_eq_getElem?_getD]
theorem frz_two (i j : Nat) {st st1 st' : St} (h1 : ∀ K : St → Prop, K st1 → frzK st i K) (h2 : ∀ K : St → Prop, K st' → frzK st1 j K) : Weak st st' := (frz_weak i h1).trans (frz_weak j h2)
end Go.Eng
/- Ids as pairs. -/
set_option linter.unusedVariables false
namespace Go.Eng
open Go Go.RowKit Go.Proofs
abbrev I2 := Int × Int
def u32P (a : I2) : Prop := (0 ≤ a.1 ∧ a.1 ≤ 4294967295) ∧ 0 ≤ a.2 ∧ a.2 ≤ 4294967295
abbrev idF (a : I2) : List IC := [vu a.1, vu a.2]
abbrev idA (a : I2) : AV := .agg (idF a)
end Go.Eng
/- Items. -/
set_option linter.unusedVariables false
set_option linter.unusedSimpArgs false
set_option maxRecDepth 100000
set_option maxHeartbeats 4000000
namespace Go.Eng
open Go Go.RowKit Go.Proofs
structure It where
  id : I2
  left : I2
  right : I2
  ch : Int
def it0 : It := ⟨(0, 0), (0, 0), (0, 0), 0⟩
abbrev itF (x : It) : List IC := [vu x.id.1, vu x.id.2, vu x.left.1, vu x.left.2, vu x.right.1, vu x.right.2, vr x.ch]
abbrev itS (l : List It) : AV := .c (.sl 7 l.length fun k => itF (l.getD k it0))
def itOk (x : It) : Prop := u32P x.id ∧ u32P x.left ∧ u32P x.right
theorem it_ext {x y : It} (h1 : x.id.1 = y.id.1) (h2 : x.id.2 = y.id.2) (h3 : x.left.1 = y.left.1) (h4 : x.left.2 = y.left.2) (h5 : x.right.1 = y.right.1) (h6 : x.right.2 = y.right.2) (h7 : x.ch = y.ch) : x = y := by
  obtain ⟨⟨a, b⟩, ⟨c, d⟩, ⟨e, f⟩, g⟩ := x
  obtain ⟨⟨a', b'⟩, ⟨c', d'⟩, ⟨e', f'⟩, g'⟩ := y
  simp only at h1 h2 h3 h4 h5 h6 h7
  rw [h1, h2, h3, h4, h5, h6, h7]
theorem list_eq {α : Type} (d : α) {a b : List α} (hl : a.length = b.length) (h : ∀ j, j < a.length → a.getD j d = b.getD j d) : a = b := by
  refine List.ext_getElem hl (fun j h1 h2 => ?_)
  have := h j h1
  rw [List.getD_eq_getElem?_getD, List.getD_eq_getElem?_getD, List.getElem?_eq_getElem h1, List.getElem?_eq_getElem h2] at this
  exact this
def siI (a b : List It) (n : Nat) (st : St) : Prop := ∃ k : Nat, n = a.length - k ∧ k ≤ a.length ∧ (∀ j, j < k → a.getD j it0 = b.getD j it0) ∧ st = ⟨26, 0, [(0, itS a), (1, itS b), (5, vci .i64 (k : Int))], []⟩
end Go.Eng
/- The order of items, by keys: plain laws. -/
set_option linter.unusedVariables false
set_option linter.unusedSimpArgs false
namespace Go.Eng
structure Hg where
  on : I2
  right : Bool
deriving instance DecidableEq for Hg
def rootH : Hg := ⟨(0, 0), true⟩
/-- Items, each with what it hangs on, the last one that came first. -/
abbrev HS := List (It × Hg)
def il (a b : I2) : Prop := a.1 < b.1 ∨ a.1 = b.1 ∧ a.2 < b.2
theorem il_irr (a : I2) : ¬ il a a := fun h => by rcases h with h | ⟨_, h⟩ <;> omega
theorem il_tr {a b c : I2} (h : il a b) (k : il b c) : il a c := by unfold il at *; omega
theorem il_tri {a b : I2} (h : a ≠ b) : il a b ∨ il b a := by
  unfold il
  have : ¬ (a.1 = b.1 ∧ a.2 = b.2) := fun e => h (Prod.ext e.1 e.2)
  omega
def sideN (h : Hg) : Nat := if h.right = true then 2 else 0
abbrev Ky := List (Nat × I2)
def elt (a b : Nat × I2) : Prop := a.1 < b.1 ∨ a.1 = b.1 ∧ il a.2 b.2
theorem elt_irr (a : Nat × I2) : ¬ elt a a := fun h => by
  rcases h with h | ⟨_, h⟩
  · omega
  · exact il_irr _ h
theorem elt_tr {a b c : Nat × I2} (h : elt a b) (k : elt b c) : elt a c := by
  unfold elt at *
  rcases h with h | ⟨h1, h2⟩ <;> rcases k with k | ⟨k1, k2⟩
  · exact .inl (by omega)
  · exact .inl (by omega)
  · exact .inl (by omega)
  · exact .inr ⟨by omega, il_tr h2 k2⟩
theorem elt_tri {a b : Nat × I2} (h : a ≠ b) : elt a b ∨ elt b a := by
  unfold elt
  rcases Nat.lt_trichotomy a.1 b.1 with g | g | g
  · exact .inl (.inl g)
  · have : a.2 ≠ b.2 := fun e => h (Prod.ext g e)
    rcases il_tri this with k | k
    · exact .inl (.inr ⟨g, k⟩)
    · exact .inr (.inr ⟨g.symm, k⟩)
  · exact .inr (.inl g)
def klt : Ky → Ky → Prop
  | a :: p1, b :: q1 => elt a b ∨ a = b ∧ klt p1 q1
  | _, _ => False
theorem klt_irr : ∀ (a : Ky), ¬ klt a a
  | [], h => h
  | a :: p1, h => by
    rcases h with h | ⟨_, h⟩
    · exact elt_irr _ h
    · exact klt_irr p1 h
theorem klt_tr : ∀ {a b c : Ky}, klt a b → klt b c → klt a c
  | [], _, _, h, _ => h.elim
  | _ :: _, [], _, h, _ => h.elim
  | _ :: _, _ :: _, [], _, k => k.elim
  | a :: p1, b :: q1, c :: r1, h, k => by
    rcases h with h | ⟨rfl, h⟩ <;> rcases k with k | ⟨rfl, k⟩
    · exact Or.inl (elt_tr h k)
    · exact Or.inl h
    · exact Or.inl k
    · exact Or.inr ⟨rfl, klt_tr h k⟩
theorem klt_app : ∀ (q : Ky) {a b : Ky}, klt a b → klt (q ++ a) (q ++ b)
  | [], _, _, h => h
  | x :: q, _, _, h => Or.inr ⟨rfl, klt_app q h⟩
theorem klt_pre : ∀ (p : Ky) {u e : Ky}, klt (p ++ u) e → (∃ t, e = p ++ t ∧ klt u t) ∨ ∀ v, klt (p ++ v) e
  | [], u, e, h => Or.inl ⟨e, rfl, h⟩
  | a :: p, u, [], h => h.elim
  | a :: p, u, b :: e, h => by
    rcases h with h | ⟨rfl, h⟩
    · exact Or.inr (fun v => Or.inl h)
    · rcases klt_pre p h with ⟨t, rfl, g⟩ | g
      · exact Or.inl ⟨t, rfl, g⟩
      · exact Or.inr (fun v => Or.inr ⟨rfl, g v⟩)
theorem klt_pre' : ∀ (p : Ky) {u e : Ky}, klt e (p ++ u) → (∃ t, e = p ++ t ∧ klt t u) ∨ ∀ v, klt e (p ++ v)
  | [], u, e, h => Or.inl ⟨e, rfl, h⟩
  | a :: p, u, [], h => h.elim
  | a :: p, u, b :: e, h => by
    rcases h with h | ⟨rfl, h⟩
    · exact Or.inr (fun v => Or.inl h)
    · rcases klt_pre' p h with ⟨t, rfl, g⟩ | g
      · exact Or.inl ⟨t, rfl, g⟩
      · exact Or.inr (fun v => Or.inr ⟨rfl, g v⟩)
def one1 : Nat × I2 := (1, (0, 0))
/-- Keys that end are told apart. -/
theorem klt_tri : ∀ {p q : Ky}, (∀ x, x ∈ p → x.1 ≠ 1) → (∀ x, x ∈ q → x.1 ≠ 1) → p ≠ q → klt (p ++ [one1]) (q ++ [one1]) ∨ klt (q ++ [one1]) (p ++ [one1])
  | [], [], _, _, h => absurd rfl h
  | [], b :: q, _, hq, _ => by
    have := hq b (List.mem_cons_self ..)
    have : elt one1 b ∨ elt b one1 := elt_tri (fun e => this (by rw [← e]; rfl))
    rcases this with h | h
    · exact Or.inl (Or.inl h)
    · exact Or.inr (Or.inl h)
  | a :: p, [], hp, _, _ => by
    have := hp a (List.mem_cons_self ..)
    have : elt one1 a ∨ elt a one1 := elt_tri (fun e => this (by rw [← e]; rfl))
    rcases this with h | h
    · exact Or.inr (Or.inl h)
    · exact Or.inl (Or.inl h)
  | a :: p, b :: q, hp, hq, h => by
    by_cases e : a = b
    · subst e
      have := klt_tri (p := p) (q := q) (fun x hx => hp x (List.mem_cons_of_mem _ hx)) (fun x hx => hq x (List.mem_cons_of_mem _ hx)) (fun e => h (by rw [e]))
      rcases this with g | g
      · exact Or.inl (Or.inr ⟨rfl, g⟩)
      · exact Or.inr (Or.inr ⟨rfl, g⟩)
    · rcases elt_tri e with g | g
      · exact Or.inl (Or.inl g)
      · exact Or.inr (Or.inl g)
/-- The way from the root to an item. -/
def pth : HS → I2 → Ky
  | [], _ => []
  | (x, h) :: r, a => if a = x.id then pth r h.on ++ [(sideN h, x.id)] else pth r a
/-- The one that hangs on h and is a, or has a below it. -/
def und : HS → I2 → Hg → Option I2
  | [], _, _ => none
  | (x, g) :: r, a, h => if a = x.id then (if g = h then some x.id else und r g.on h) else und r a h
def hasI (hs : HS) (a : I2) : Prop := ∃ p, p ∈ hs ∧ p.1.id = a
def okH : HS → Prop
  | [] => True
  | (x, h) :: r => okH r ∧ x.id.1 ≠ 0 ∧ (∀ p, p ∈ r → p.1.id ≠ x.id) ∧ (h = rootH ∨ h.on.1 ≠ 0 ∧ hasI r h.on)
theorem okH_none : ∀ {hs : HS} {a : I2}, okH hs → hasI hs a → a.1 ≠ 0
  | (x, h) :: r, a, ho, ⟨p, hp, e⟩ => by
    rcases List.mem_cons.1 hp with rfl | hp
    · rw [← e]; exact ho.2.1
    · exact okH_none ho.1 ⟨p, hp, e⟩
theorem hasI_cons {x : It} {h : Hg} {r : HS} {a : I2} (ha : hasI r a) : hasI ((x, h) :: r) a := by
  obtain ⟨p, hp, e⟩ := ha
  exact ⟨p, List.mem_cons_of_mem _ hp, e⟩
theorem pth_no : ∀ {hs : HS} {a : I2}, ¬ hasI hs a → pth hs a = []
  | [], _, _ => rfl
  | (x, h) :: r, a, ha => by
    unfold pth
    rw [if_neg (fun e => ha ⟨(x, h), List.mem_cons_self .., e.symm⟩)]
    exact pth_no (fun g => ha (hasI_cons g))
theorem und_no : ∀ {hs : HS} {a : I2} {h : Hg}, ¬ hasI hs a → und hs a h = none
  | [], _, _, _ => rfl
  | (x, g) :: r, a, h, ha => by
    unfold und
    rw [if_neg (fun e => ha ⟨(x, g), List.mem_cons_self .., e.symm⟩)]
    exact und_no (fun g => ha (hasI_cons g))
/-- What an item hangs on is another one. -/
theorem on_ne {x y : It} {h g : Hg} {r : HS} (ho : okH ((y, g) :: r)) (hm : (x, h) ∈ (y, g) :: r) : h.on ≠ y.id := by
  intro e
  rcases List.mem_cons.1 hm with he | hm
  · cases he
    rcases ho.2.2.2 with hr | ⟨_, p, hp, hpe⟩
    · rw [hr] at e
      exact ho.2.1 (by rw [← e]; rfl)
    · exact ho.2.2.1 p hp (hpe.trans e)
  · have key : ∀ {r : HS}, okH r → (x, h) ∈ r → h.on.1 = 0 ∨ hasI r h.on := by
      intro r
      induction r with
      | nil => intro _ hm; cases hm
      | cons q r ih =>
        obtain ⟨z, k⟩ := q
        intro hr hm
        rcases List.mem_cons.1 hm with he | hm
        · cases he
          rcases hr.2.2.2 with h1 | ⟨_, h1⟩
          · exact .inl (by rw [h1]; rfl)
          · exact .inr (hasI_cons h1)
        · rcases ih hr.1 hm with h1 | h1
          · exact .inl h1
          · exact .inr (hasI_cons h1)
    rcases key ho.1 hm with h1 | ⟨p, hp, hpe⟩
    · exact ho.2.1 (by rw [← e]; exact h1)
    · exact ho.2.2.1 p hp (hpe.trans e)
theorem on_ok {x : It} {h : Hg} : ∀ {r : HS}, okH r → (x, h) ∈ r → h = rootH ∨ h.on.1 ≠ 0 ∧ hasI r h.on
  | (z, k) :: r, hr, hm => by
    rcases List.mem_cons.1 hm with he | hm
    · cases he
      rcases hr.2.2.2 with h1 | ⟨h0, h1⟩
      · exact .inl h1
      · exact .inr ⟨h0, hasI_cons h1⟩
    · rcases on_ok hr.1 hm with h1 | ⟨h0, h1⟩
      · exact .inl h1
      · exact .inr ⟨h0, hasI_cons h1⟩
theorem pth_at {x : It} {h : Hg} : ∀ {hs : HS}, okH hs → (x, h) ∈ hs → pth hs x.id = pth hs h.on ++ [(sideN h, x.id)]
  | (y, g) :: r, ho, hm => by
    have hne := on_ne ho hm
    have e1 : pth ((y, g) :: r) h.on = pth r h.on := by
      show (if h.on = y.id then _ else _) = _
      rw [if_neg hne]
    rw [e1]
    rcases List.mem_cons.1 hm with he | hm
    · cases he
      show (if x.id = x.id then _ else _) = _
      rw [if_pos rfl]
    · show (if x.id = y.id then _ else _) = _
      rw [if_neg (ho.2.2.1 _ hm), pth_at ho.1 hm]
theorem und_at {x : It} {h k : Hg} : ∀ {hs : HS}, okH hs → (x, h) ∈ hs → und hs x.id k = if h = k then some x.id else und hs h.on k
  | (y, g) :: r, ho, hm => by
    have hne := on_ne ho hm
    have e1 : und ((y, g) :: r) h.on k = und r h.on k := by
      show (if h.on = y.id then _ else _) = _
      rw [if_neg hne]
    rw [e1]
    rcases List.mem_cons.1 hm with he | hm
    · cases he
      show (if x.id = x.id then _ else _) = _
      rw [if_pos rfl]
    · show (if x.id = y.id then _ else _) = _
      rw [if_neg (ho.2.2.1 _ hm), und_at ho.1 hm]
theorem pth_ne {hs : HS} {a : I2} (ho : okH hs) (ha : hasI hs a) : pth hs a ≠ [] := by
  obtain ⟨⟨x, h⟩, hp, rfl⟩ := ha
  rw [pth_at ho hp]
  simp
theorem hasI_of {hs : HS} {a : I2} (h : pth hs a ≠ []) : hasI hs a := by
  by_cases g : hasI hs a
  · exact g
  · exact absurd (pth_no g) h
theorem pth_inj {hs : HS} {a b : I2} (ho : okH hs) (ha : hasI hs a) (hb : hasI hs b) (e : pth hs a = pth hs b) : a = b := by
  obtain ⟨⟨x, h⟩, hp, rfl⟩ := ha
  obtain ⟨⟨y, g⟩, hq, rfl⟩ := hb
  rw [pth_at ho hp, pth_at ho hq] at e
  have := (List.append_inj' e rfl).2
  simp at this
  exact this.2
theorem pth_side : ∀ (hs : HS) (a : I2) (x : Nat × I2), x ∈ pth hs a → x.1 = 0 ∨ x.1 = 2
  | [], a, x, h => by cases h
  | (y, g) :: r, a, x, h => by
    unfold pth at h
    split at h
    · rcases List.mem_append.1 h with h | h
      · exact pth_side r _ x h
      · rw [List.mem_singleton] at h
        rw [h]
        unfold sideN
        split
        · exact .inr rfl
        · exact .inl rfl
    · exact pth_side r _ x h
theorem pth_split {hs : HS} (ho : okH hs) : ∀ (n : Nat) (t : Ky), t.length = n → ∀ (e : I2) (q : Ky) (s : Nat) (k : I2), hasI hs e → pth hs e = q ++ (s, k) :: t → ∃ x h, (x, h) ∈ hs ∧ x.id = k ∧ sideN h = s ∧ pth hs h.on = q := by
  intro n
  induction n with
  | zero =>
    intro t ht e q s k he hp
    obtain rfl := List.eq_nil_of_length_eq_zero ht
    obtain ⟨⟨x, h⟩, hm, rfl⟩ := he
    rw [pth_at ho hm] at hp
    obtain ⟨h1, h2⟩ := List.append_inj' hp rfl
    simp at h2
    exact ⟨x, h, hm, h2.2, h2.1, h1⟩
  | succ n ih =>
    intro t ht e q s k he hp
    obtain ⟨⟨x, h⟩, hm, rfl⟩ := he
    rw [pth_at ho hm] at hp
    obtain ⟨t', z, rfl⟩ : ∃ t' z, t = t' ++ [z] := by
      have : t ≠ [] := fun e => by rw [e] at ht; cases ht
      exact ⟨t.dropLast, t.getLast this, (List.dropLast_concat_getLast this).symm⟩
    have e2 : q ++ (s, k) :: (t' ++ [z]) = (q ++ (s, k) :: t') ++ [z] := by simp
    rw [e2] at hp
    obtain ⟨h1, h2⟩ := List.append_inj' hp rfl
    refine ih t' (by simp at ht; omega) h.on q s k (hasI_of (by rw [h1]; simp)) h1
theorem side_inj {h g : Hg} (e : sideN h = sideN g) (e2 : h.on = g.on) : h = g := by
  obtain ⟨a, b⟩ := h
  obtain ⟨c, d⟩ := g
  simp only at e2
  subst e2
  unfold sideN at e
  cases b <;> cases d <;> first | rfl | (simp at e)
theorem und_some {hs : HS} (ho : okH hs) : ∀ (n : Nat) (e : I2) (h : Hg) (k : I2), (pth hs e).length = n → und hs e h = some k → ∃ x, (x, h) ∈ hs ∧ x.id = k ∧ ∃ t, pth hs e = pth hs k ++ t := by
  intro n
  induction n with
  | zero =>
    intro e h k hn hu
    have : ¬ hasI hs e := fun g => pth_ne ho g (List.eq_nil_of_length_eq_zero hn)
    rw [und_no this] at hu
    cases hu
  | succ n ih =>
    intro e h k hn hu
    obtain ⟨⟨x, g⟩, hm, rfl⟩ : hasI hs e := hasI_of (fun e => by rw [e] at hn; cases hn)
    rw [und_at ho hm] at hu
    have hp := pth_at ho hm
    split at hu
    · rename_i e
      subst e
      cases hu
      exact ⟨x, hm, rfl, [], by simp⟩
    · have hn2 : (pth hs g.on).length = n := by rw [hp] at hn; simp at hn; exact hn
      obtain ⟨y, h1, h2, t, h3⟩ := ih g.on h k hn2 hu
      exact ⟨y, h1, h2, t ++ [(sideN g, x.id)], by rw [hp, h3]; simp⟩
theorem und_is {hs : HS} (ho : okH hs) {x : It} {h : Hg} (hx : (x, h) ∈ hs) : ∀ (n : Nat) (t : Ky), t.length = n → ∀ e, pth hs e = pth hs x.id ++ t → (und hs e h).isSome = true := by
  intro n
  induction n with
  | zero =>
    intro t ht e he
    obtain rfl := List.eq_nil_of_length_eq_zero ht
    rw [List.append_nil] at he
    have hhx : hasI hs x.id := ⟨(x, h), hx, rfl⟩
    have := pth_inj ho (hasI_of (by rw [he]; exact pth_ne ho hhx)) hhx he
    rw [this, und_at ho hx, if_pos rfl]
    rfl
  | succ n ih =>
    intro t ht e he
    have hhx : hasI hs x.id := ⟨(x, h), hx, rfl⟩
    obtain ⟨⟨y, g⟩, hm, rfl⟩ : hasI hs e := hasI_of (by rw [he]; simp [pth_ne ho hhx])
    rw [und_at ho hm]
    split
    · rfl
    · obtain ⟨t', z, rfl⟩ : ∃ t' z, t = t' ++ [z] := by
        have : t ≠ [] := fun e => by rw [e] at ht; cases ht
        exact ⟨t.dropLast, t.getLast this, (List.dropLast_concat_getLast this).symm⟩
      rw [pth_at ho hm, ← List.append_assoc] at he
      exact ih t' (by simp at ht; omega) g.on (List.append_inj' he rfl).1
/-- A place to hang on. -/
def okOn (hs : HS) (h : Hg) : Prop := h = rootH ∨ h.on.1 ≠ 0 ∧ hasI hs h.on
theorem on_eq {hs : HS} {h g : Hg} (ho : okH hs) (hh : okOn hs h) (hg : okOn hs g) (e : pth hs h.on = pth hs g.on) : h.on = g.on := by
  rcases hh with rfl | ⟨h0, h1⟩ <;> rcases hg with rfl | ⟨g0, g1⟩
  · rfl
  · exact absurd (e ▸ pth_no (fun k => okH_none ho k rfl)) (pth_ne ho g1)
  · exact absurd (e.symm ▸ pth_no (fun k => okH_none ho k rfl)) (pth_ne ho h1)
  · exact pth_inj ho h1 g1 e
theorem und_iff {hs : HS} (ho : okH hs) {e : I2} {h : Hg} (hh : okOn hs h) (k : I2) : und hs e h = some k ↔ ∃ t, pth hs e = pth hs h.on ++ (sideN h, k) :: t := by
  constructor
  · intro hu
    obtain ⟨x, hx, rfl, t, ht⟩ := und_some ho _ e h k rfl hu
    exact ⟨t, by rw [ht, pth_at ho hx]; simp⟩
  · rintro ⟨t, ht⟩
    obtain ⟨x, g, hx, rfl, hs1, hp⟩ := pth_split ho _ t rfl e _ _ k (hasI_of (by rw [ht]; simp)) ht
    have hgo : okOn hs g := on_ok ho hx
    have : g = h := side_inj hs1 (on_eq ho hgo hh hp)
    subst this
    have hi := und_is ho hx _ t rfl e (by rw [ht, pth_at ho hx]; simp)
    cases hu : und hs e g with
    | none => rw [hu] at hi; cases hi
    | some k =>
      obtain ⟨y, hy, rfl, t2, ht2⟩ := und_some ho _ e g k rfl hu
      rw [ht, pth_at ho hy, List.append_assoc] at ht2
      have := (List.append_cancel_left ht2)
      simp at this
      rw [this.1]
/-- The key. -/
def kyO (hs : HS) (a : I2) : Ky := pth hs a ++ [one1]
theorem ky_tri {hs : HS} (ho : okH hs) {a b : I2} (ha : hasI hs a) (hb : hasI hs b) (h : a ≠ b) : klt (kyO hs a) (kyO hs b) ∨ klt (kyO hs b) (kyO hs a) :=
  klt_tri (fun x hx e => by rcases pth_side hs a x hx with g | g <;> omega) (fun x hx e => by rcases pth_side hs b x hx with g | g <;> omega) (fun e => h (pth_inj ho ha hb e))
/-- The key of an item to come. -/
def kyN (hs : HS) (h : Hg) (x : I2) : Ky := pth hs h.on ++ [(sideN h, x), one1]
theorem key_lt {hs : HS} (ho : okH hs) {h : Hg} (hh : okOn hs h) {e k x : I2} (hu : und hs e h = some k) (hl : il k x) : klt (kyO hs e) (kyN hs h x) := by
  obtain ⟨t, ht⟩ := (und_iff ho hh k).1 hu
  unfold kyO kyN
  rw [ht, List.append_assoc]
  exact klt_app _ (Or.inl (Or.inr ⟨rfl, hl⟩))
theorem key_gt {hs : HS} (ho : okH hs) {h : Hg} (hh : okOn hs h) {e k x : I2} (hu : und hs e h = some k) (hl : il x k) : klt (kyN hs h x) (kyO hs e) := by
  obtain ⟨t, ht⟩ := (und_iff ho hh k).1 hu
  unfold kyO kyN
  rw [ht, List.append_assoc]
  exact klt_app _ (Or.inl (Or.inr ⟨rfl, hl⟩))
theorem tail_of {hs : HS} {e : I2} {q t : Ky} (h : kyO hs e = q ++ t) (hne : t ≠ [one1]) (hn0 : t ≠ []) : ∃ b t', t = b :: t' ∧ (b.1 = 0 ∨ b.1 = 2) ∧ ∃ t'', pth hs e = q ++ b :: t'' := by
  obtain ⟨t', z, rfl⟩ : ∃ t' z, t = t' ++ [z] := ⟨t.dropLast, t.getLast hn0, (List.dropLast_concat_getLast hn0).symm⟩
  unfold kyO at h
  rw [← List.append_assoc] at h
  obtain ⟨h1, h2⟩ := List.append_inj' h rfl
  simp at h2
  cases t' with
  | nil => rw [← h2] at hne; exact absurd rfl hne
  | cons b t' =>
    refine ⟨b, t' ++ [z], rfl, pth_side hs e b (by rw [h1]; simp), t', h1⟩
theorem key_right {hs : HS} (ho : okH hs) {h : Hg} (hh : okOn hs h) (hr : h.right = true) {e x : I2} (hu : und hs e h = none) (hlt : klt (kyO hs h.on) (kyO hs e)) : klt (kyN hs h x) (kyO hs e) := by
  rcases klt_pre (pth hs h.on) (u := [one1]) hlt with ⟨t, h1, h2⟩ | h1
  · exfalso
    obtain ⟨b, t', rfl, hb, t'', hp⟩ := tail_of h1 (fun e => klt_irr _ (e ▸ h2)) (fun e => by rw [e] at h2; exact h2)
    rcases h2 with h2 | ⟨h2, _⟩
    · have : b.1 = 2 := by
        rcases hb with hb | hb
        · rcases h2 with h2 | ⟨h2, _⟩ <;> (rw [hb] at h2; cases h2)
        · exact hb
      have := (und_iff ho hh b.2).2 ⟨t'', by rw [hp, show sideN h = 2 from by unfold sideN; rw [if_pos hr], ← this]⟩
      rw [hu] at this; cases this
    · rw [← h2] at hb
      rcases hb with hb | hb <;> cases hb
  · exact h1 _
theorem key_left {hs : HS} (ho : okH hs) {h : Hg} (hh : okOn hs h) (hr : h.right = false) {e x : I2} (hu : und hs e h = none) (hlt : klt (kyO hs e) (kyO hs h.on)) : klt (kyO hs e) (kyN hs h x) := by
  rcases klt_pre' (pth hs h.on) (u := [one1]) hlt with ⟨t, h1, h2⟩ | h1
  · exfalso
    obtain ⟨b, t', rfl, hb, t'', hp⟩ := tail_of h1 (fun e => klt_irr _ (e ▸ h2)) (fun e => by rw [e] at h2; exact h2)
    rcases h2 with h2 | ⟨h2, _⟩
    · have : b.1 = 0 := by
        rcases hb with hb | hb
        · exact hb
        · rcases h2 with h2 | ⟨h2, _⟩
          · rw [hb] at h2; simp [one1] at h2
          · rw [hb] at h2; cases h2
      have := (und_iff ho hh b.2).2 ⟨t'', by rw [hp, show sideN h = 0 from by unfold sideN; rw [if_neg (by rw [hr]; simp)], ← this]⟩
      rw [hu] at this; cases this
    · rw [h2] at hb
      rcases hb with hb | hb <;> cases hb
  · exact h1 _
end Go.Eng
/- The order: one alone, whatever came first; where an item comes. -/
set_option linter.unusedVariables false
set_option linter.unusedSimpArgs false
namespace Go.Eng
def idsH (hs : HS) : List I2 := hs.map (fun p => p.1.id)
theorem mem_idsH {hs : HS} {a : I2} : a ∈ idsH hs ↔ hasI hs a := by
  unfold idsH hasI
  rw [List.mem_map]
/-- All Ids, by rising keys. -/
structure isOrd (hs : HS) (o : List I2) : Prop where
  perm : o.Perm (idsH hs)
  srt : o.Pairwise (fun a b => klt (kyO hs a) (kyO hs b))
theorem pw_uniq {α : Type} {R : α → α → Prop} (hR : ∀ a b, R a b → R b a → False) : ∀ {l m : List α}, l.Perm m → l.Pairwise R → m.Pairwise R → l = m
  | [], m, hp, _, _ => hp.nil_eq
  | a :: l, [], hp, _, _ => by have := hp.length_eq; cases this
  | a :: l, b :: m, hp, hl, hm => by
    rw [List.pairwise_cons] at hl hm
    have hab : a = b := by
      have ha : a ∈ b :: m := hp.mem_iff.1 (List.mem_cons_self ..)
      have hb : b ∈ a :: l := hp.mem_iff.2 (List.mem_cons_self ..)
      rcases List.mem_cons.1 ha with h | h
      · exact h
      · rcases List.mem_cons.1 hb with g | g
        · exact g.symm
        · exact (hR _ _ (hl.1 b g) (hm.1 a h)).elim
    subst hab
    rw [pw_uniq hR (List.perm_cons _ |>.1 hp) hl.2 hm.2]
theorem isOrd.uniq {hs : HS} {o o' : List I2} (h : isOrd hs o) (h' : isOrd hs o') : o = o' :=
  pw_uniq (fun a b h1 h2 => klt_irr _ (klt_tr h1 h2)) (h.perm.trans h'.perm.symm) h.srt h'.srt
theorem isOrd.has {hs : HS} {o : List I2} (h : isOrd hs o) {a : I2} : a ∈ o ↔ hasI hs a := h.perm.mem_iff.trans mem_idsH
theorem idsH_nodup : ∀ {hs : HS}, okH hs → (idsH hs).Nodup
  | [], _ => List.nodup_nil
  | (x, h) :: r, ho => by
    unfold idsH
    rw [List.map_cons, List.nodup_cons]
    refine ⟨fun hm => ?_, idsH_nodup ho.1⟩
    obtain ⟨p, hp, e⟩ := List.mem_map.1 hm
    exact ho.2.2.1 p hp e
theorem isOrd.nodup {hs : HS} {o : List I2} (ho : okH hs) (h : isOrd hs o) : o.Nodup := h.perm.nodup_iff.2 (idsH_nodup ho)
theorem ky_cons {x : It} {h : Hg} {r : HS} (ho : okH ((x, h) :: r)) {a : I2} (ha : hasI r a) : kyO ((x, h) :: r) a = kyO r a := by
  unfold kyO
  congr 1
  show (if a = x.id then _ else _) = _
  rw [if_neg]
  intro e
  obtain ⟨p, hp, hpe⟩ := ha
  exact ho.2.2.1 p hp (hpe.trans e)
theorem ky_new {x : It} {h : Hg} {r : HS} : kyO ((x, h) :: r) x.id = kyN r h x.id := by
  unfold kyO kyN
  show (if x.id = x.id then _ else _) ++ _ = _
  rw [if_pos rfl, List.append_assoc]
  rfl
theorem getD_mem {α : Type} {l : List α} {j : Nat} {d : α} (h : j < l.length) : l.getD j d ∈ l := by
  rw [List.getD_eq_getElem?_getD, List.getElem?_eq_getElem h]; exact List.getElem_mem h
/-- **Where an item comes.** -/
theorem ord_put {x : It} {h : Hg} {r : HS} {o : List I2} (ho : okH ((x, h) :: r)) (hO : isOrd r o) {n : Nat} (hn : n ≤ o.length) (h1 : ∀ j, j < n → klt (kyO r (o.getD j (0, 0))) (kyN r h x.id)) (h2 : ∀ j, n ≤ j → j < o.length → klt (kyN r h x.id) (kyO r (o.getD j (0, 0)))) :
    isOrd ((x, h) :: r) (o.take n ++ [x.id] ++ o.drop n) := by
  have hk : ∀ a, a ∈ o → kyO ((x, h) :: r) a = kyO r a := fun a ha => ky_cons ho (hO.has.1 ha)
  have hpw : o.Pairwise (fun a b => klt (kyO ((x, h) :: r) a) (kyO ((x, h) :: r) b)) := hO.srt.imp_of_mem (fun {a b} ha hb hab => by rw [hk a ha, hk b hb]; exact hab)
  rw [← List.take_append_drop n o, List.pairwise_append] at hpw
  obtain ⟨p1, p2, p3⟩ := hpw
  have ht : ∀ a, a ∈ o.take n → klt (kyO ((x, h) :: r) a) (kyO ((x, h) :: r) x.id) := fun a ha => by
    obtain ⟨j, hj, rfl⟩ := List.getElem_of_mem ha
    rw [hk _ (List.mem_of_mem_take ha), ky_new]
    have := h1 j (by simp at hj; omega)
    rw [List.getD_eq_getElem?_getD, List.getElem?_eq_getElem (by simp at hj; omega)] at this
    rw [List.getElem_take]
    exact this
  have hd : ∀ a, a ∈ o.drop n → klt (kyO ((x, h) :: r) x.id) (kyO ((x, h) :: r) a) := fun a ha => by
    obtain ⟨j, hj, rfl⟩ := List.getElem_of_mem ha
    rw [hk _ (List.mem_of_mem_drop ha), ky_new]
    have hj2 : n + j < o.length := by simp at hj; omega
    have := h2 (n + j) (by omega) hj2
    rw [List.getD_eq_getElem?_getD, List.getElem?_eq_getElem hj2] at this
    rw [List.getElem_drop]
    exact this
  refine ⟨?_, ?_⟩
  · have : (o.take n ++ [x.id] ++ o.drop n).Perm (x.id :: o) := by
      have h3 : (o.take n ++ [x.id] ++ o.drop n).Perm ([x.id] ++ o.take n ++ o.drop n) := List.Perm.append_right _ List.perm_append_comm
      rw [List.append_assoc, List.append_assoc, List.take_append_drop] at h3
      rw [List.append_assoc]
      exact h3
    exact this.trans (hO.perm.cons _)
  · rw [List.pairwise_append]
    refine ⟨?_, p2, fun a ha b hb => ?_⟩
    · rw [List.pairwise_append]
      refine ⟨p1, List.pairwise_singleton _ _, fun a ha b hb => ?_⟩
      rw [List.mem_singleton] at hb
      subst hb
      exact ht a ha
    · rcases List.mem_append.1 ha with ha | ha
      · exact p3 a ha b hb
      · rw [List.mem_singleton] at ha
        subst ha
        exact hd b hb
theorem ord_lt {hs : HS} {o : List I2} (hO : isOrd hs o) {i j : Nat} (hij : i < j) (hj : j < o.length) : klt (kyO hs (o.getD i (0, 0))) (kyO hs (o.getD j (0, 0))) := by
  rw [List.getD_eq_getElem?_getD, List.getD_eq_getElem?_getD, List.getElem?_eq_getElem hj, List.getElem?_eq_getElem (by omega)]
  exact List.pairwise_iff_getElem.1 hO.srt i j (by omega) hj hij
/-- On the right: over those that hang there too, as far as their Ids go. -/
theorem put_right {x : It} {h : Hg} {r : HS} {o : List I2} (ho : okH ((x, h) :: r)) (hO : isOrd r o) (hr : h.right = true) {s n : Nat} (hs : (h.on.1 = 0 ∧ s = 0) ∨ ∃ q, s = q + 1 ∧ q < o.length ∧ o.getD q (0, 0) = h.on) (hsn : s ≤ n) (hn : n ≤ o.length)
    (h1 : ∀ j, s ≤ j → j < n → ∃ k, und r (o.getD j (0, 0)) h = some k ∧ ¬ il x.id k) (h2 : n < o.length → und r (o.getD n (0, 0)) h = none ∨ ∃ k, und r (o.getD n (0, 0)) h = some k ∧ il x.id k) :
    isOrd ((x, h) :: r) (o.take n ++ [x.id] ++ o.drop n) := by
  have hoo : okOn r h := ho.2.2.2
  have hne : ∀ {e k}, und r e h = some k → k ≠ x.id := fun {e k} hu e2 => by
    obtain ⟨y, hy, hk, _⟩ := und_some ho.1 _ e h k rfl hu
    exact ho.2.2.1 _ hy (hk.trans e2)
  have hlow : ∀ j, j < s → klt (kyO r (o.getD j (0, 0))) (kyN r h x.id) := fun j hj => by
    rcases hs with ⟨_, rfl⟩ | ⟨q, rfl, hq, hqe⟩
    · omega
    · have hon : klt (kyO r h.on) (kyN r h x.id) := by
        unfold kyO kyN
        exact klt_app _ (Or.inl (Or.inl (by unfold sideN; rw [if_pos hr]; show (1 : Nat) < 2; omega)))
      rcases Nat.lt_succ_iff_lt_or_eq.1 hj with g | rfl
      · exact klt_tr (hqe ▸ ord_lt hO g hq) hon
      · rw [hqe]; exact hon
  refine ord_put ho hO hn (fun j hj => ?_) ?_
  · rcases Nat.lt_or_ge j s with g | g
    · exact hlow j g
    · obtain ⟨k, hu, hl⟩ := h1 j g hj
      refine key_lt ho.1 hoo hu ?_
      rcases il_tri (hne hu) with g2 | g2
      · exact g2
      · exact absurd g2 hl
  · have hfirst : n < o.length → klt (kyN r h x.id) (kyO r (o.getD n (0, 0))) := fun hnl => by
      rcases h2 hnl with hu | ⟨k, hu, hl⟩
      · rcases hs with ⟨hz, rfl⟩ | ⟨q, rfl, hq, hqe⟩
        · exfalso
          have hrt : h = rootH := by
            rcases hoo with g | ⟨g, _⟩
            · exact g
            · exact absurd hz g
          subst hrt
          have hin : hasI r (o.getD n (0, 0)) := hO.has.1 (getD_mem hnl)
          obtain ⟨⟨y, g⟩, hm, hy⟩ := hin
          have := und_root ho.1 hm
          rw [hy, hu] at this
          cases this
        · exact key_right ho.1 hoo hr hu (hqe ▸ ord_lt hO (by omega) hnl)
      · exact key_gt ho.1 hoo hu hl
    intro j hj hjl
    rcases Nat.lt_or_ge n j with g | g
    · exact klt_tr (hfirst (by omega)) (ord_lt hO g hjl)
    · obtain rfl : j = n := by omega
      exact hfirst hjl
where
  und_root {hs : HS} {y : It} {g : Hg} (ho : okH hs) (hm : (y, g) ∈ hs) : (und hs y.id rootH).isSome = true := by
    have key : ∀ n (y : It) (g : Hg), (pth hs y.id).length = n → (y, g) ∈ hs → (und hs y.id rootH).isSome = true := by
      intro n
      induction n with
      | zero => intro y g hn hm; exact absurd (List.eq_nil_of_length_eq_zero hn) (pth_ne ho ⟨(y, g), hm, rfl⟩)
      | succ n ih =>
        intro y g hn hm
        rw [und_at ho hm]
        split
        · rfl
        · rename_i hg
          rcases on_ok ho hm with h1 | ⟨_, ⟨z, k⟩, hz, hze⟩
          · exact absurd h1 hg
          · rw [pth_at ho hm] at hn
            simp at hn
            rw [← hze]
            exact ih z k (by rw [hze]; exact hn) hz
    exact key _ y g rfl hm
/-- On the left. -/
theorem put_left {x : It} {h : Hg} {r : HS} {o : List I2} (ho : okH ((x, h) :: r)) (hO : isOrd r o) (hr : h.right = false) {q n : Nat} (hq : q < o.length) (hqe : o.getD q (0, 0) = h.on) (hn : n ≤ q)
    (h1 : ∀ j, n ≤ j → j < q → ∃ k, und r (o.getD j (0, 0)) h = some k ∧ ¬ il k x.id) (h2 : 0 < n → und r (o.getD (n - 1) (0, 0)) h = none ∨ ∃ k, und r (o.getD (n - 1) (0, 0)) h = some k ∧ il k x.id) :
    isOrd ((x, h) :: r) (o.take n ++ [x.id] ++ o.drop n) := by
  have hoo : okOn r h := ho.2.2.2
  have hne : ∀ {e k}, und r e h = some k → x.id ≠ k := fun {e k} hu e2 => by
    obtain ⟨y, hy, hk, _⟩ := und_some ho.1 _ e h k rfl hu
    exact ho.2.2.1 _ hy (hk.trans e2.symm)
  have hon : klt (kyN r h x.id) (kyO r h.on) := by
    unfold kyO kyN
    exact klt_app _ (Or.inl (Or.inl (by unfold sideN; rw [if_neg (by rw [hr]; simp)]; show (0 : Nat) < 1; omega)))
  have hlast : 0 < n → klt (kyO r (o.getD (n - 1) (0, 0))) (kyN r h x.id) := fun hn0 => by
    rcases h2 hn0 with hu | ⟨k, hu, hl⟩
    · exact key_left ho.1 hoo hr hu (hqe ▸ ord_lt hO (by omega) hq)
    · exact key_lt ho.1 hoo hu hl
  refine ord_put ho hO (by omega) (fun j hj => ?_) (fun j hj hjl => ?_)
  · rcases Nat.lt_or_ge j (n - 1) with g | g
    · exact klt_tr (ord_lt hO g (by omega)) (hlast (by omega))
    · obtain rfl : j = n - 1 := by omega
      exact hlast (by omega)
  · rcases Nat.lt_trichotomy j q with g | rfl | g
    · obtain ⟨k, hu, hl⟩ := h1 j hj g
      refine key_gt ho.1 hoo hu ?_
      rcases il_tri (hne hu) with g2 | g2
      · exact g2
      · exact absurd g2 hl
    · rw [hqe]; exact hon
    · exact klt_tr hon (hqe ▸ ord_lt hO g hjl)
end Go.Eng
/- The order of items: what the reference's functions need. -/
set_option linter.unusedVariables false
set_option linter.unusedSimpArgs false
set_option maxRecDepth 100000
set_option maxHeartbeats 4000000
namespace Go.Eng
open Go Go.RowKit Go.Proofs
theorem e64 {k : Nat} (hk : k ≤ 1000000000000) : IntKind.i64.wrap ((k : Int) + 1) = ((k + 1 : Nat) : Int) := by rw [w_i64 (by omega) (by omega)]; omega
abbrev hgF (h : Hg) : List IC := [vu h.on.1, vu h.on.2, .v (.bool h.right)]
abbrev hgA (h : Hg) : AV := .agg (hgF h)
def bel (hs : HS) (a b : I2) : Bool := (und hs a ⟨b, false⟩).isSome || (und hs a ⟨b, true⟩).isSome
def belR (hs : HS) (a b : I2) : Bool := b.1 == 0 || bel hs a b
def hgOf (hs : HS) (x : It) : Hg := if (x.right.1 != 0 && belR hs x.right x.left) = true then ⟨x.right, false⟩ else if x.left.1 = 0 then rootH else ⟨x.left, true⟩
theorem tm_em (n b : Int) (hb : 0 < b) : (n.tmod b < 0 → n % b = n.tmod b + b) ∧ (¬ n.tmod b < 0 → n % b = n.tmod b) := by
  have h0 := Int.emod_nonneg n (show b ≠ 0 by omega)
  have h1 := Int.emod_lt_of_pos n hb
  have h2 : (b.natAbs : Int) = b := Int.natAbs_of_nonneg (by omega)
  rw [Int.tmod_eq_emod]
  split <;> constructor <;> intro h <;> omega
theorem pick_c (n by_ : Int) (hn : -9223372036854775808 ≤ n ∧ n ≤ 9223372036854775807) (hb : 0 < by_ ∧ by_ ≤ 1000000) : CallV Try.prog 20 [vci .i64 n, vci .i64 by_] [] (fun r own' => own' = [] ∧ r = vci .i64 (n % by_)) := by
  refine callV_pure Try.func20 rfl ttok ftok rfl rfl rfl (Nat.le_of_ble_eq_true rfl) ?_
  conv => whnf
  refine ⟨hb.1, ?_⟩
  conv => whnf
  obtain ⟨t1, t2⟩ := tm_em n by_ hb.1
  have h0 := Int.emod_nonneg n (show by_ ≠ 0 by omega)
  have h1 := Int.emod_lt_of_pos n hb.1
  by_cases h : n.tmod by_ < 0
  · rw [decide_eq_true h]
    conv => whnf
    rw [← t1 h, w_i64 (by omega) (by omega)]
    all_goals first | rfl | exact ⟨rfl, rfl⟩
  · rw [decide_eq_false h]
    conv => whnf
    rw [← t2 h]
    all_goals first | rfl | exact ⟨rfl, rfl⟩
abbrev idR (l : List I2) : Nat → List IC := fun k => idF (l.getD k (0, 0))
abbrev idS (l : List I2) : AV := .c (.sl 2 l.length (idR l))
def siI2 (a : List I2) (n : Nat) (st : St) : Prop := ∃ k : Nat, n = a.length - k ∧ k ≤ a.length ∧ st = ⟨26, 0, [(0, idS a), (1, idS a), (5, vci .i64 (k : Int))], []⟩
theorem sameids_c (a : List I2) (ha : a.length ≤ 1000000) : CallV Try.prog 34 [idS a, idS a] [] (fun r own' => own' = [] ∧ r = vcb true) := by
  refine callV_pure Try.func34 rfl ttok ftok rfl rfl rfl (Nat.le_of_ble_eq_true rfl) ?_
  conv => whnf
  rw [show (((a.length : Nat) : Int) != (a.length : Nat)) = false from bne_self_eq_false _]
  conv => whnf
  refine loopV ttok ftok (siI2 a) (env_weak [0, 1, 5] rfl) ⟨0, rfl, Nat.zero_le _, rfl⟩ ?_
  rintro n st ⟨k, rfl, hk, rfl⟩
  conv => whnf
  refine onB_intro (fun h => ?_) (fun h => ?_)
  · have h := of_decide_eq_true h
    have hk2 : k < a.length := by omega
    conv => whnf
    refine drawV_join mixed (by kernel_rfl) ttok ?_
    conv => whnf
    refine ⟨⟨by omega, by omega⟩, ?_⟩
    conv => whnf
    refine ⟨⟨by omega, by omega⟩, ?_⟩
    conv => whnf
    simp only [ti_nat]
    refine onB_intro (fun g => ?_) (fun g => ?_)
    · simp at g
    · conv => whnf
      rw [e64 (by omega)]
      exact ⟨a.length - (k + 1), _, by omega, env_weak [0, 1, 5] rfl, k + 1, rfl, by omega, rfl⟩
  · conv => whnf
    all_goals first | rfl | exact ⟨rfl, rfl⟩
theorem sameids0 : CallV Try.prog 34 [.c (.v (.slice none 0 0)), .c (.v (.slice none 0 0))] [] (fun r own' => own' = [] ∧ r = vcb true) :=
  callV_args (argsLe_nil 2 (idR []) (argsLe_nil 2 (idR []) (argsLe_refl []))) (sameids_c [] (by decide))
def vldR (c : Int) : Bool := (decide (0 ≤ c) && decide (c < 55296)) || (decide (57343 < c) && decide (c ≤ 1114111))
theorem hg_beq (g h : Hg) : ((g.on.1 == h.on.1 && (g.on.2 == h.on.2 && true)) && (g.right == h.right && true)) = decide (g = h) := by
  rw [Bool.eq_iff_iff, decide_eq_true_iff]
  simp only [Bool.and_true, Bool.and_eq_true, beq_iff_eq]
  obtain ⟨⟨a, b⟩, c⟩ := g
  obtain ⟨⟨d, e⟩, f⟩ := h
  constructor
  · rintro ⟨⟨h1, h2⟩, h3⟩
    simp only at h1 h2 h3
    rw [h1, h2, h3]
  · intro e
    cases e
    exact ⟨⟨rfl, rfl⟩, rfl⟩
end Go.Eng
