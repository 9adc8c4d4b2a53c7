/- A part of the proof: what the functions of the program come to, told by a small reckoner of states. -/
import Derived.Test.YteglopjljejjkaaA20
import Derived.Test.YteglopjljejjkaaProg
import Derived.KernelRfl
namespace Go.Eng
open Go Go.RowKit Go.Proofs
instance : HasGl Try.prog := ⟨fun _ => True, fun _ _ => trivial⟩
def ti1 : TI := ⟨1, false, (TypeDesc.func #[] #[] false), Value.nilFunc, 8, false, false, false⟩
theorem tf1 : TF Try.prog 1 ti1 := ⟨Try.sizeOf1, Try.isAgg1, Try.underlying1, Try.zeroValue1, by kernel_rfl, by kernel_rfl, by kernel_rfl, by kernel_rfl⟩
def ti2 : TI := ⟨1, false, (TypeDesc.int IntKind.i64), (Value.int IntKind.i64 0), 8, false, false, true⟩
theorem tf2 : TF Try.prog 2 ti2 := ⟨Try.sizeOf2, Try.isAgg2, Try.underlying2, Try.zeroValue2, by kernel_rfl, by kernel_rfl, by kernel_rfl, by kernel_rfl⟩
def ti3 : TI := ⟨1, false, (TypeDesc.int IntKind.i64), (Value.int IntKind.i64 0), 8, false, false, true⟩
theorem tf3 : TF Try.prog 3 ti3 := ⟨Try.sizeOf3, Try.isAgg3, Try.underlying3, Try.zeroValue3, by kernel_rfl, by kernel_rfl, by kernel_rfl, by kernel_rfl⟩
def ti4 : TI := ⟨1, false, TypeDesc.bool, (Value.bool false), 1, false, false, true⟩
theorem tf4 : TF Try.prog 4 ti4 := ⟨Try.sizeOf4, Try.isAgg4, Try.underlying4, Try.zeroValue4, by kernel_rfl, by kernel_rfl, by kernel_rfl, by kernel_rfl⟩
def ti5 : TI := ⟨1, false, (TypeDesc.int IntKind.u8), (Value.int IntKind.u8 0), 1, false, false, true⟩
theorem tf5 : TF Try.prog 5 ti5 := ⟨Try.sizeOf5, Try.isAgg5, Try.underlying5, Try.zeroValue5, by kernel_rfl, by kernel_rfl, by kernel_rfl, by kernel_rfl⟩
def ti6 : TI := ⟨1, false, (TypeDesc.int IntKind.u8), (Value.int IntKind.u8 0), 1, false, false, true⟩
theorem tf6 : TF Try.prog 6 ti6 := ⟨Try.sizeOf6, Try.isAgg6, Try.underlying6, Try.zeroValue6, by kernel_rfl, by kernel_rfl, by kernel_rfl, by kernel_rfl⟩
def ti9 : TI := ⟨1, false, TypeDesc.string, (Value.string { data := #[] }), 16, false, false, true⟩
theorem tf9 : TF Try.prog 9 ti9 := ⟨Try.sizeOf9, Try.isAgg9, Try.underlying9, Try.zeroValue9, by kernel_rfl, by kernel_rfl, by kernel_rfl, by kernel_rfl⟩
def ti10 : TI := ⟨1, false, TypeDesc.string, (Value.string { data := #[] }), 16, false, false, true⟩
theorem tf10 : TF Try.prog 10 ti10 := ⟨Try.sizeOf10, Try.isAgg10, Try.underlying10, Try.zeroValue10, by kernel_rfl, by kernel_rfl, by kernel_rfl, by kernel_rfl⟩
def ti11 : TI := ⟨1, false, TypeDesc.string, (Value.string { data := #[] }), 16, false, false, true⟩
theorem tf11 : TF Try.prog 11 ti11 := ⟨Try.sizeOf11, Try.isAgg11, Try.underlying11, Try.zeroValue11, by kernel_rfl, by kernel_rfl, by kernel_rfl, by kernel_rfl⟩
def ti12 : TI := ⟨1, false, (TypeDesc.int IntKind.u64), (Value.int IntKind.u64 0), 8, false, false, true⟩
theorem tf12 : TF Try.prog 12 ti12 := ⟨Try.sizeOf12, Try.isAgg12, Try.underlying12, Try.zeroValue12, by kernel_rfl, by kernel_rfl, by kernel_rfl, by kernel_rfl⟩
def ti15 : TI := ⟨1, false, (TypeDesc.pointer 102), (Value.pointer none), 8, false, false, true⟩
theorem tf15 : TF Try.prog 15 ti15 := ⟨Try.sizeOf15, Try.isAgg15, Try.underlying15, Try.zeroValue15, by kernel_rfl, by kernel_rfl, by kernel_rfl, by kernel_rfl⟩
def ti16 : TI := ⟨1, false, (TypeDesc.pointer 105), (Value.pointer none), 8, false, false, true⟩
theorem tf16 : TF Try.prog 16 ti16 := ⟨Try.sizeOf16, Try.isAgg16, Try.underlying16, Try.zeroValue16, by kernel_rfl, by kernel_rfl, by kernel_rfl, by kernel_rfl⟩
def ti17 : TI := ⟨1, false, (TypeDesc.pointer 113), (Value.pointer none), 8, false, false, true⟩
theorem tf17 : TF Try.prog 17 ti17 := ⟨Try.sizeOf17, Try.isAgg17, Try.underlying17, Try.zeroValue17, by kernel_rfl, by kernel_rfl, by kernel_rfl, by kernel_rfl⟩
def ti20 : TI := ⟨1, false, (TypeDesc.interface #[]), Value.nilIface, 16, false, false, true⟩
theorem tf20 : TF Try.prog 20 ti20 := ⟨Try.sizeOf20, Try.isAgg20, Try.underlying20, Try.zeroValue20, by kernel_rfl, by kernel_rfl, by kernel_rfl, by kernel_rfl⟩
def ti21 : TI := ⟨1, false, (TypeDesc.int IntKind.i32), (Value.int IntKind.i32 0), 4, false, false, true⟩
theorem tf21 : TF Try.prog 21 ti21 := ⟨Try.sizeOf21, Try.isAgg21, Try.underlying21, Try.zeroValue21, by kernel_rfl, by kernel_rfl, by kernel_rfl, by kernel_rfl⟩
def ti22 : TI := ⟨1, false, (TypeDesc.func #[] #[4] false), Value.nilFunc, 8, false, false, false⟩
theorem tf22 : TF Try.prog 22 ti22 := ⟨Try.sizeOf22, Try.isAgg22, Try.underlying22, Try.zeroValue22, by kernel_rfl, by kernel_rfl, by kernel_rfl, by kernel_rfl⟩
def ti23 : TI := ⟨1, false, (TypeDesc.slice 21), (Value.slice none 0 0), 24, false, false, false⟩
theorem tf23 : TF Try.prog 23 ti23 := ⟨Try.sizeOf23, Try.isAgg23, Try.underlying23, Try.zeroValue23, by kernel_rfl, by kernel_rfl, by kernel_rfl, by kernel_rfl⟩
def ti25 : TI := ⟨1, false, (TypeDesc.func #[9] #[23, 4] false), Value.nilFunc, 8, false, false, false⟩
theorem tf25 : TF Try.prog 25 ti25 := ⟨Try.sizeOf25, Try.isAgg25, Try.underlying25, Try.zeroValue25, by kernel_rfl, by kernel_rfl, by kernel_rfl, by kernel_rfl⟩
def ti26 : TI := ⟨3, true, (TypeDesc.struct #[{ name := "At", type := 3, offset := 0, embedded := false, tag := "", pkgPath := "", byteOffset := 0 }, { name := "Del", type := 3, offset := 1, embedded := false, tag := "", pkgPath := "", byteOffset := 8 }, { name := "Ins", type := 9, offset := 2, embedded := false, tag := "", pkgPath := "", byteOffset := 16 }]), (Value.agg #[Value.int IntKind.i64 0, Value.int IntKind.i64 0, Value.string { data := #[] }]), 32, false, false, true⟩
theorem tf26 : TF Try.prog 26 ti26 := ⟨Try.sizeOf26, Try.isAgg26, Try.underlying26, Try.zeroValue26, by kernel_rfl, by kernel_rfl, by kernel_rfl, by kernel_rfl⟩
def ti27 : TI := ⟨3, true, (TypeDesc.struct #[{ name := "At", type := 3, offset := 0, embedded := false, tag := "", pkgPath := "", byteOffset := 0 }, { name := "Del", type := 3, offset := 1, embedded := false, tag := "", pkgPath := "", byteOffset := 8 }, { name := "Ins", type := 9, offset := 2, embedded := false, tag := "", pkgPath := "", byteOffset := 16 }]), (Value.agg #[Value.int IntKind.i64 0, Value.int IntKind.i64 0, Value.string { data := #[] }]), 32, false, false, true⟩
theorem tf27 : TF Try.prog 27 ti27 := ⟨Try.sizeOf27, Try.isAgg27, Try.underlying27, Try.zeroValue27, by kernel_rfl, by kernel_rfl, by kernel_rfl, by kernel_rfl⟩
def ti29 : TI := ⟨1, false, (TypeDesc.func #[9, 9] #[27, 4] false), Value.nilFunc, 8, false, false, false⟩
theorem tf29 : TF Try.prog 29 ti29 := ⟨Try.sizeOf29, Try.isAgg29, Try.underlying29, Try.zeroValue29, by kernel_rfl, by kernel_rfl, by kernel_rfl, by kernel_rfl⟩
def ti30 : TI := ⟨1, false, (TypeDesc.interface #[("Error", 100)]), Value.nilIface, 16, false, true, true⟩
theorem tf30 : TF Try.prog 30 ti30 := ⟨Try.sizeOf30, Try.isAgg30, Try.underlying30, Try.zeroValue30, by kernel_rfl, by kernel_rfl, by kernel_rfl, by kernel_rfl⟩
def ti31 : TI := ⟨1, false, (TypeDesc.interface #[("Error", 100)]), Value.nilIface, 16, false, true, true⟩
theorem tf31 : TF Try.prog 31 ti31 := ⟨Try.sizeOf31, Try.isAgg31, Try.underlying31, Try.zeroValue31, by kernel_rfl, by kernel_rfl, by kernel_rfl, by kernel_rfl⟩
def ti33 : TI := ⟨1, false, (TypeDesc.func #[9, 27] #[9, 31] false), Value.nilFunc, 8, false, false, false⟩
theorem tf33 : TF Try.prog 33 ti33 := ⟨Try.sizeOf33, Try.isAgg33, Try.underlying33, Try.zeroValue33, by kernel_rfl, by kernel_rfl, by kernel_rfl, by kernel_rfl⟩
def ti35 : TI := ⟨1, false, (TypeDesc.func #[9, 27] #[9, 4] false), Value.nilFunc, 8, false, false, false⟩
theorem tf35 : TF Try.prog 35 ti35 := ⟨Try.sizeOf35, Try.isAgg35, Try.underlying35, Try.zeroValue35, by kernel_rfl, by kernel_rfl, by kernel_rfl, by kernel_rfl⟩
def ti36 : TI := ⟨1, false, (TypeDesc.func #[31] #[3] false), Value.nilFunc, 8, false, false, false⟩
theorem tf36 : TF Try.prog 36 ti36 := ⟨Try.sizeOf36, Try.isAgg36, Try.underlying36, Try.zeroValue36, by kernel_rfl, by kernel_rfl, by kernel_rfl, by kernel_rfl⟩
def ti37 : TI := ⟨1, false, (TypeDesc.func #[9, 9, 3, 3, 9] #[4] false), Value.nilFunc, 8, false, false, false⟩
theorem tf37 : TF Try.prog 37 ti37 := ⟨Try.sizeOf37, Try.isAgg37, Try.underlying37, Try.zeroValue37, by kernel_rfl, by kernel_rfl, by kernel_rfl, by kernel_rfl⟩
def ti38 : TI := ⟨1, false, (TypeDesc.slice 50), (Value.slice none 0 0), 24, false, false, false⟩
theorem tf38 : TF Try.prog 38 ti38 := ⟨Try.sizeOf38, Try.isAgg38, Try.underlying38, Try.zeroValue38, by kernel_rfl, by kernel_rfl, by kernel_rfl, by kernel_rfl⟩
def ti39 : TI := ⟨1, false, (TypeDesc.pointer 78), (Value.pointer none), 8, false, false, true⟩
theorem tf39 : TF Try.prog 39 ti39 := ⟨Try.sizeOf39, Try.isAgg39, Try.underlying39, Try.zeroValue39, by kernel_rfl, by kernel_rfl, by kernel_rfl, by kernel_rfl⟩
def ti41 : TI := ⟨1, false, (TypeDesc.func #[3] #[39, 31] false), Value.nilFunc, 8, false, false, false⟩
theorem tf41 : TF Try.prog 41 ti41 := ⟨Try.sizeOf41, Try.isAgg41, Try.underlying41, Try.zeroValue41, by kernel_rfl, by kernel_rfl, by kernel_rfl, by kernel_rfl⟩
def ti42 : TI := ⟨1, false, (TypeDesc.pointer 45), (Value.pointer none), 8, false, false, true⟩
theorem tf42 : TF Try.prog 42 ti42 := ⟨Try.sizeOf42, Try.isAgg42, Try.underlying42, Try.zeroValue42, by kernel_rfl, by kernel_rfl, by kernel_rfl, by kernel_rfl⟩
def ti43 : TI := ⟨1, false, (TypeDesc.slice 48), (Value.slice none 0 0), 24, false, false, false⟩
theorem tf43 : TF Try.prog 43 ti43 := ⟨Try.sizeOf43, Try.isAgg43, Try.underlying43, Try.zeroValue43, by kernel_rfl, by kernel_rfl, by kernel_rfl, by kernel_rfl⟩
def ti44 : TI := ⟨3, true, (TypeDesc.struct #[{ name := "L", type := 43, offset := 0, embedded := false, tag := "", pkgPath := "", byteOffset := 0 }, { name := "Room", type := 3, offset := 1, embedded := false, tag := "", pkgPath := "", byteOffset := 24 }, { name := "Gap", type := 4, offset := 2, embedded := false, tag := "", pkgPath := "", byteOffset := 32 }]), (Value.agg #[Value.slice none 0 0, Value.int IntKind.i64 0, Value.bool false]), 40, false, false, false⟩
theorem tf44 : TF Try.prog 44 ti44 := ⟨Try.sizeOf44, Try.isAgg44, Try.underlying44, Try.zeroValue44, by kernel_rfl, by kernel_rfl, by kernel_rfl, by kernel_rfl⟩
def ti45 : TI := ⟨3, true, (TypeDesc.struct #[{ name := "L", type := 43, offset := 0, embedded := false, tag := "", pkgPath := "", byteOffset := 0 }, { name := "Room", type := 3, offset := 1, embedded := false, tag := "", pkgPath := "", byteOffset := 24 }, { name := "Gap", type := 4, offset := 2, embedded := false, tag := "", pkgPath := "", byteOffset := 32 }]), (Value.agg #[Value.slice none 0 0, Value.int IntKind.i64 0, Value.bool false]), 40, false, false, false⟩
theorem tf45 : TF Try.prog 45 ti45 := ⟨Try.sizeOf45, Try.isAgg45, Try.underlying45, Try.zeroValue45, by kernel_rfl, by kernel_rfl, by kernel_rfl, by kernel_rfl⟩
def ti46 : TI := ⟨1, false, (TypeDesc.func #[3, 3] #[3] false), Value.nilFunc, 8, false, false, false⟩
theorem tf46 : TF Try.prog 46 ti46 := ⟨Try.sizeOf46, Try.isAgg46, Try.underlying46, Try.zeroValue46, by kernel_rfl, by kernel_rfl, by kernel_rfl, by kernel_rfl⟩
def ti47 : TI := ⟨6, true, (TypeDesc.struct #[{ name := "Version", type := 3, offset := 0, embedded := false, tag := "", pkgPath := "", byteOffset := 0 }, { name := "Whole", type := 4, offset := 1, embedded := false, tag := "", pkgPath := "", byteOffset := 8 }, { name := "Text", type := 9, offset := 2, embedded := false, tag := "", pkgPath := "", byteOffset := 16 }, { name := "Edit", type := 27, offset := 3, embedded := false, tag := "", pkgPath := "", byteOffset := 32 }]), (Value.agg #[Value.int IntKind.i64 0, Value.bool false, Value.string { data := #[] }, Value.int IntKind.i64 0, Value.int IntKind.i64 0, Value.string { data := #[] }]), 64, false, false, true⟩
theorem tf47 : TF Try.prog 47 ti47 := ⟨Try.sizeOf47, Try.isAgg47, Try.underlying47, Try.zeroValue47, by kernel_rfl, by kernel_rfl, by kernel_rfl, by kernel_rfl⟩
def ti48 : TI := ⟨6, true, (TypeDesc.struct #[{ name := "Version", type := 3, offset := 0, embedded := false, tag := "", pkgPath := "", byteOffset := 0 }, { name := "Whole", type := 4, offset := 1, embedded := false, tag := "", pkgPath := "", byteOffset := 8 }, { name := "Text", type := 9, offset := 2, embedded := false, tag := "", pkgPath := "", byteOffset := 16 }, { name := "Edit", type := 27, offset := 3, embedded := false, tag := "", pkgPath := "", byteOffset := 32 }]), (Value.agg #[Value.int IntKind.i64 0, Value.bool false, Value.string { data := #[] }, Value.int IntKind.i64 0, Value.int IntKind.i64 0, Value.string { data := #[] }]), 64, false, false, true⟩
theorem tf48 : TF Try.prog 48 ti48 := ⟨Try.sizeOf48, Try.isAgg48, Try.underlying48, Try.zeroValue48, by kernel_rfl, by kernel_rfl, by kernel_rfl, by kernel_rfl⟩
def ti49 : TI := ⟨7, true, (TypeDesc.struct #[{ name := "What", type := 3, offset := 0, embedded := false, tag := "", pkgPath := "", byteOffset := 0 }, { name := "M", type := 48, offset := 1, embedded := false, tag := "", pkgPath := "", byteOffset := 8 }]), (Value.agg #[Value.int IntKind.i64 0, Value.int IntKind.i64 0, Value.bool false, Value.string { data := #[] }, Value.int IntKind.i64 0, Value.int IntKind.i64 0, Value.string { data := #[] }]), 72, false, false, true⟩
theorem tf49 : TF Try.prog 49 ti49 := ⟨Try.sizeOf49, Try.isAgg49, Try.underlying49, Try.zeroValue49, by kernel_rfl, by kernel_rfl, by kernel_rfl, by kernel_rfl⟩
def ti50 : TI := ⟨7, true, (TypeDesc.struct #[{ name := "What", type := 3, offset := 0, embedded := false, tag := "", pkgPath := "", byteOffset := 0 }, { name := "M", type := 48, offset := 1, embedded := false, tag := "", pkgPath := "", byteOffset := 8 }]), (Value.agg #[Value.int IntKind.i64 0, Value.int IntKind.i64 0, Value.bool false, Value.string { data := #[] }, Value.int IntKind.i64 0, Value.int IntKind.i64 0, Value.string { data := #[] }]), 72, false, false, true⟩
theorem tf50 : TF Try.prog 50 ti50 := ⟨Try.sizeOf50, Try.isAgg50, Try.underlying50, Try.zeroValue50, by kernel_rfl, by kernel_rfl, by kernel_rfl, by kernel_rfl⟩
def ti51 : TI := ⟨1, false, (TypeDesc.func #[43, 43] #[3] false), Value.nilFunc, 8, false, false, false⟩
theorem tf51 : TF Try.prog 51 ti51 := ⟨Try.sizeOf51, Try.isAgg51, Try.underlying51, Try.zeroValue51, by kernel_rfl, by kernel_rfl, by kernel_rfl, by kernel_rfl⟩
def ti52 : TI := ⟨1, false, (TypeDesc.func #[3, 9] #[43] false), Value.nilFunc, 8, false, false, false⟩
theorem tf52 : TF Try.prog 52 ti52 := ⟨Try.sizeOf52, Try.isAgg52, Try.underlying52, Try.zeroValue52, by kernel_rfl, by kernel_rfl, by kernel_rfl, by kernel_rfl⟩
def ti53 : TI := ⟨1, false, (TypeDesc.func #[48] #[4] false), Value.nilFunc, 8, false, false, false⟩
theorem tf53 : TF Try.prog 53 ti53 := ⟨Try.sizeOf53, Try.isAgg53, Try.underlying53, Try.zeroValue53, by kernel_rfl, by kernel_rfl, by kernel_rfl, by kernel_rfl⟩
def ti54 : TI := ⟨1, false, (TypeDesc.func #[] #[3] false), Value.nilFunc, 8, false, false, false⟩
theorem tf54 : TF Try.prog 54 ti54 := ⟨Try.sizeOf54, Try.isAgg54, Try.underlying54, Try.zeroValue54, by kernel_rfl, by kernel_rfl, by kernel_rfl, by kernel_rfl⟩
def ti55 : TI := ⟨1, false, (TypeDesc.func #[3, 38] #[4] false), Value.nilFunc, 8, false, false, false⟩
theorem tf55 : TF Try.prog 55 ti55 := ⟨Try.sizeOf55, Try.isAgg55, Try.underlying55, Try.zeroValue55, by kernel_rfl, by kernel_rfl, by kernel_rfl, by kernel_rfl⟩
def ti56 : TI := ⟨1, false, (TypeDesc.func #[3, 43, 3] #[4] false), Value.nilFunc, 8, false, false, false⟩
theorem tf56 : TF Try.prog 56 ti56 := ⟨Try.sizeOf56, Try.isAgg56, Try.underlying56, Try.zeroValue56, by kernel_rfl, by kernel_rfl, by kernel_rfl, by kernel_rfl⟩
def ti57 : TI := ⟨1, false, (TypeDesc.int IntKind.u32), (Value.int IntKind.u32 0), 4, false, false, true⟩
theorem tf57 : TF Try.prog 57 ti57 := ⟨Try.sizeOf57, Try.isAgg57, Try.underlying57, Try.zeroValue57, by kernel_rfl, by kernel_rfl, by kernel_rfl, by kernel_rfl⟩
def ti58 : TI := ⟨2, true, (TypeDesc.struct #[{ name := "Client", type := 57, offset := 0, embedded := false, tag := "", pkgPath := "", byteOffset := 0 }, { name := "Clock", type := 57, offset := 1, embedded := false, tag := "", pkgPath := "", byteOffset := 4 }]), (Value.agg #[Value.int IntKind.u32 0, Value.int IntKind.u32 0]), 8, false, false, true⟩
theorem tf58 : TF Try.prog 58 ti58 := ⟨Try.sizeOf58, Try.isAgg58, Try.underlying58, Try.zeroValue58, by kernel_rfl, by kernel_rfl, by kernel_rfl, by kernel_rfl⟩
def ti59 : TI := ⟨2, true, (TypeDesc.struct #[{ name := "Client", type := 57, offset := 0, embedded := false, tag := "", pkgPath := "", byteOffset := 0 }, { name := "Clock", type := 57, offset := 1, embedded := false, tag := "", pkgPath := "", byteOffset := 4 }]), (Value.agg #[Value.int IntKind.u32 0, Value.int IntKind.u32 0]), 8, false, false, true⟩
theorem tf59 : TF Try.prog 59 ti59 := ⟨Try.sizeOf59, Try.isAgg59, Try.underlying59, Try.zeroValue59, by kernel_rfl, by kernel_rfl, by kernel_rfl, by kernel_rfl⟩
def ti61 : TI := ⟨1, false, (TypeDesc.func #[59, 3, 57] #[59, 31] false), Value.nilFunc, 8, false, false, false⟩
theorem tf61 : TF Try.prog 61 ti61 := ⟨Try.sizeOf61, Try.isAgg61, Try.underlying61, Try.zeroValue61, by kernel_rfl, by kernel_rfl, by kernel_rfl, by kernel_rfl⟩
def ti63 : TI := ⟨1, false, (TypeDesc.func #[59, 3, 57] #[59, 3] false), Value.nilFunc, 8, false, false, false⟩
theorem tf63 : TF Try.prog 63 ti63 := ⟨Try.sizeOf63, Try.isAgg63, Try.underlying63, Try.zeroValue63, by kernel_rfl, by kernel_rfl, by kernel_rfl, by kernel_rfl⟩
def ti64 : TI := ⟨1, false, (TypeDesc.func #[59, 59] #[3] false), Value.nilFunc, 8, false, false, false⟩
theorem tf64 : TF Try.prog 64 ti64 := ⟨Try.sizeOf64, Try.isAgg64, Try.underlying64, Try.zeroValue64, by kernel_rfl, by kernel_rfl, by kernel_rfl, by kernel_rfl⟩
def ti65 : TI := ⟨1, false, (TypeDesc.func #[59] #[4] false), Value.nilFunc, 8, false, false, false⟩
theorem tf65 : TF Try.prog 65 ti65 := ⟨Try.sizeOf65, Try.isAgg65, Try.underlying65, Try.zeroValue65, by kernel_rfl, by kernel_rfl, by kernel_rfl, by kernel_rfl⟩
def ti66 : TI := ⟨1, false, (TypeDesc.func #[59, 59, 3, 57] #[4] false), Value.nilFunc, 8, false, false, false⟩
theorem tf66 : TF Try.prog 66 ti66 := ⟨Try.sizeOf66, Try.isAgg66, Try.underlying66, Try.zeroValue66, by kernel_rfl, by kernel_rfl, by kernel_rfl, by kernel_rfl⟩
def ti67 : TI := ⟨1, false, (TypeDesc.int IntKind.u16), (Value.int IntKind.u16 0), 2, false, false, true⟩
theorem tf67 : TF Try.prog 67 ti67 := ⟨Try.sizeOf67, Try.isAgg67, Try.underlying67, Try.zeroValue67, by kernel_rfl, by kernel_rfl, by kernel_rfl, by kernel_rfl⟩
def ti68 : TI := ⟨1, false, (TypeDesc.func #[59, 59, 59, 67, 67, 57] #[4] false), Value.nilFunc, 8, false, false, false⟩
theorem tf68 : TF Try.prog 68 ti68 := ⟨Try.sizeOf68, Try.isAgg68, Try.underlying68, Try.zeroValue68, by kernel_rfl, by kernel_rfl, by kernel_rfl, by kernel_rfl⟩
def ti69 : TI := ⟨1, false, (TypeDesc.slice 84), (Value.slice none 0 0), 24, false, false, false⟩
theorem tf69 : TF Try.prog 69 ti69 := ⟨Try.sizeOf69, Try.isAgg69, Try.underlying69, Try.zeroValue69, by kernel_rfl, by kernel_rfl, by kernel_rfl, by kernel_rfl⟩
def ti70 : TI := ⟨1, false, (TypeDesc.func #[69] #[4] false), Value.nilFunc, 8, false, false, false⟩
theorem tf70 : TF Try.prog 70 ti70 := ⟨Try.sizeOf70, Try.isAgg70, Try.underlying70, Try.zeroValue70, by kernel_rfl, by kernel_rfl, by kernel_rfl, by kernel_rfl⟩
def ti71 : TI := ⟨1, false, (TypeDesc.func #[69, 69] #[4] false), Value.nilFunc, 8, false, false, false⟩
theorem tf71 : TF Try.prog 71 ti71 := ⟨Try.sizeOf71, Try.isAgg71, Try.underlying71, Try.zeroValue71, by kernel_rfl, by kernel_rfl, by kernel_rfl, by kernel_rfl⟩
def ti72 : TI := ⟨1, false, (TypeDesc.func #[69, 57, 57] #[69] false), Value.nilFunc, 8, false, false, false⟩
theorem tf72 : TF Try.prog 72 ti72 := ⟨Try.sizeOf72, Try.isAgg72, Try.underlying72, Try.zeroValue72, by kernel_rfl, by kernel_rfl, by kernel_rfl, by kernel_rfl⟩
def ti73 : TI := ⟨1, false, (TypeDesc.func #[69, 69] #[69] false), Value.nilFunc, 8, false, false, false⟩
theorem tf73 : TF Try.prog 73 ti73 := ⟨Try.sizeOf73, Try.isAgg73, Try.underlying73, Try.zeroValue73, by kernel_rfl, by kernel_rfl, by kernel_rfl, by kernel_rfl⟩
def ti74 : TI := ⟨1, false, (TypeDesc.func #[69, 57] #[57] false), Value.nilFunc, 8, false, false, false⟩
theorem tf74 : TF Try.prog 74 ti74 := ⟨Try.sizeOf74, Try.isAgg74, Try.underlying74, Try.zeroValue74, by kernel_rfl, by kernel_rfl, by kernel_rfl, by kernel_rfl⟩
def ti75 : TI := ⟨1, false, (TypeDesc.func #[69, 69, 57, 57] #[4] false), Value.nilFunc, 8, false, false, false⟩
theorem tf75 : TF Try.prog 75 ti75 := ⟨Try.sizeOf75, Try.isAgg75, Try.underlying75, Try.zeroValue75, by kernel_rfl, by kernel_rfl, by kernel_rfl, by kernel_rfl⟩
def ti76 : TI := ⟨1, false, (TypeDesc.int IntKind.i64), (Value.int IntKind.i64 0), 8, false, false, true⟩
theorem tf76 : TF Try.prog 76 ti76 := ⟨Try.sizeOf76, Try.isAgg76, Try.underlying76, Try.zeroValue76, by kernel_rfl, by kernel_rfl, by kernel_rfl, by kernel_rfl⟩
def ti77 : TI := ⟨3, true, (TypeDesc.struct #[{ name := "l", type := 43, offset := 0, embedded := false, tag := "", pkgPath := "surcingle/subs", byteOffset := 0 }, { name := "room", type := 3, offset := 1, embedded := false, tag := "", pkgPath := "surcingle/subs", byteOffset := 24 }, { name := "gap", type := 4, offset := 2, embedded := false, tag := "", pkgPath := "surcingle/subs", byteOffset := 32 }]), (Value.agg #[Value.slice none 0 0, Value.int IntKind.i64 0, Value.bool false]), 40, false, false, false⟩
theorem tf77 : TF Try.prog 77 ti77 := ⟨Try.sizeOf77, Try.isAgg77, Try.underlying77, Try.zeroValue77, by kernel_rfl, by kernel_rfl, by kernel_rfl, by kernel_rfl⟩
def ti78 : TI := ⟨3, true, (TypeDesc.struct #[{ name := "l", type := 43, offset := 0, embedded := false, tag := "", pkgPath := "surcingle/subs", byteOffset := 0 }, { name := "room", type := 3, offset := 1, embedded := false, tag := "", pkgPath := "surcingle/subs", byteOffset := 24 }, { name := "gap", type := 4, offset := 2, embedded := false, tag := "", pkgPath := "surcingle/subs", byteOffset := 32 }]), (Value.agg #[Value.slice none 0 0, Value.int IntKind.i64 0, Value.bool false]), 40, false, false, false⟩
theorem tf78 : TF Try.prog 78 ti78 := ⟨Try.sizeOf78, Try.isAgg78, Try.underlying78, Try.zeroValue78, by kernel_rfl, by kernel_rfl, by kernel_rfl, by kernel_rfl⟩
def ti79 : TI := ⟨1, false, (TypeDesc.int IntKind.u64), (Value.int IntKind.u64 0), 8, false, false, true⟩
theorem tf79 : TF Try.prog 79 ti79 := ⟨Try.sizeOf79, Try.isAgg79, Try.underlying79, Try.zeroValue79, by kernel_rfl, by kernel_rfl, by kernel_rfl, by kernel_rfl⟩
def ti80 : TI := ⟨1, false, (TypeDesc.func #[92] #[3] true), Value.nilFunc, 8, false, false, false⟩
theorem tf80 : TF Try.prog 80 ti80 := ⟨Try.sizeOf80, Try.isAgg80, Try.underlying80, Try.zeroValue80, by kernel_rfl, by kernel_rfl, by kernel_rfl, by kernel_rfl⟩
def ti81 : TI := ⟨1, false, (TypeDesc.func #[57, 57] #[3] false), Value.nilFunc, 8, false, false, false⟩
theorem tf81 : TF Try.prog 81 ti81 := ⟨Try.sizeOf81, Try.isAgg81, Try.underlying81, Try.zeroValue81, by kernel_rfl, by kernel_rfl, by kernel_rfl, by kernel_rfl⟩
def ti82 : TI := ⟨1, false, (TypeDesc.func #[59, 59] #[4] false), Value.nilFunc, 8, false, false, false⟩
theorem tf82 : TF Try.prog 82 ti82 := ⟨Try.sizeOf82, Try.isAgg82, Try.underlying82, Try.zeroValue82, by kernel_rfl, by kernel_rfl, by kernel_rfl, by kernel_rfl⟩
def ti83 : TI := ⟨2, true, (TypeDesc.struct #[{ name := "Client", type := 57, offset := 0, embedded := false, tag := "", pkgPath := "", byteOffset := 0 }, { name := "Next", type := 57, offset := 1, embedded := false, tag := "", pkgPath := "", byteOffset := 4 }]), (Value.agg #[Value.int IntKind.u32 0, Value.int IntKind.u32 0]), 8, false, false, true⟩
theorem tf83 : TF Try.prog 83 ti83 := ⟨Try.sizeOf83, Try.isAgg83, Try.underlying83, Try.zeroValue83, by kernel_rfl, by kernel_rfl, by kernel_rfl, by kernel_rfl⟩
def ti84 : TI := ⟨2, true, (TypeDesc.struct #[{ name := "Client", type := 57, offset := 0, embedded := false, tag := "", pkgPath := "", byteOffset := 0 }, { name := "Next", type := 57, offset := 1, embedded := false, tag := "", pkgPath := "", byteOffset := 4 }]), (Value.agg #[Value.int IntKind.u32 0, Value.int IntKind.u32 0]), 8, false, false, true⟩
theorem tf84 : TF Try.prog 84 ti84 := ⟨Try.sizeOf84, Try.isAgg84, Try.underlying84, Try.zeroValue84, by kernel_rfl, by kernel_rfl, by kernel_rfl, by kernel_rfl⟩
def ti85 : TI := ⟨1, false, (TypeDesc.func #[69] #[69] false), Value.nilFunc, 8, false, false, false⟩
theorem tf85 : TF Try.prog 85 ti85 := ⟨Try.sizeOf85, Try.isAgg85, Try.underlying85, Try.zeroValue85, by kernel_rfl, by kernel_rfl, by kernel_rfl, by kernel_rfl⟩
def ti87 : TI := ⟨1, false, (TypeDesc.func #[69, 57] #[3, 4] false), Value.nilFunc, 8, false, false, false⟩
theorem tf87 : TF Try.prog 87 ti87 := ⟨Try.sizeOf87, Try.isAgg87, Try.underlying87, Try.zeroValue87, by kernel_rfl, by kernel_rfl, by kernel_rfl, by kernel_rfl⟩
def ti88 : TI := ⟨1, false, (TypeDesc.func #[69, 3, 3] #[69] false), Value.nilFunc, 8, false, false, false⟩
theorem tf88 : TF Try.prog 88 ti88 := ⟨Try.sizeOf88, Try.isAgg88, Try.underlying88, Try.zeroValue88, by kernel_rfl, by kernel_rfl, by kernel_rfl, by kernel_rfl⟩
def ti89 : TI := ⟨1, false, (TypeDesc.func #[69, 3, 69] #[69] true), Value.nilFunc, 8, false, false, false⟩
theorem tf89 : TF Try.prog 89 ti89 := ⟨Try.sizeOf89, Try.isAgg89, Try.underlying89, Try.zeroValue89, by kernel_rfl, by kernel_rfl, by kernel_rfl, by kernel_rfl⟩
def ti90 : TI := ⟨1, false, (TypeDesc.func #[69, 91] #[4] false), Value.nilFunc, 8, false, false, false⟩
theorem tf90 : TF Try.prog 90 ti90 := ⟨Try.sizeOf90, Try.isAgg90, Try.underlying90, Try.zeroValue90, by kernel_rfl, by kernel_rfl, by kernel_rfl, by kernel_rfl⟩
def ti91 : TI := ⟨1, false, (TypeDesc.func #[84] #[4] false), Value.nilFunc, 8, false, false, false⟩
theorem tf91 : TF Try.prog 91 ti91 := ⟨Try.sizeOf91, Try.isAgg91, Try.underlying91, Try.zeroValue91, by kernel_rfl, by kernel_rfl, by kernel_rfl, by kernel_rfl⟩
def ti92 : TI := ⟨1, false, (TypeDesc.slice 3), (Value.slice none 0 0), 24, false, false, false⟩
theorem tf92 : TF Try.prog 92 ti92 := ⟨Try.sizeOf92, Try.isAgg92, Try.underlying92, Try.zeroValue92, by kernel_rfl, by kernel_rfl, by kernel_rfl, by kernel_rfl⟩
def ti93 : TI := ⟨1, false, (TypeDesc.func #[57] #[4] false), Value.nilFunc, 8, false, false, false⟩
theorem tf93 : TF Try.prog 93 ti93 := ⟨Try.sizeOf93, Try.isAgg93, Try.underlying93, Try.zeroValue93, by kernel_rfl, by kernel_rfl, by kernel_rfl, by kernel_rfl⟩
def ti94 : TI := ⟨1, false, (TypeDesc.func #[69, 57, 95] #[3, 4] false), Value.nilFunc, 8, false, false, false⟩
theorem tf94 : TF Try.prog 94 ti94 := ⟨Try.sizeOf94, Try.isAgg94, Try.underlying94, Try.zeroValue94, by kernel_rfl, by kernel_rfl, by kernel_rfl, by kernel_rfl⟩
def ti95 : TI := ⟨1, false, (TypeDesc.func #[84, 57] #[3] false), Value.nilFunc, 8, false, false, false⟩
theorem tf95 : TF Try.prog 95 ti95 := ⟨Try.sizeOf95, Try.isAgg95, Try.underlying95, Try.zeroValue95, by kernel_rfl, by kernel_rfl, by kernel_rfl, by kernel_rfl⟩
def ti96 : TI := ⟨1, false, (TypeDesc.func #[69, 3] #[] false), Value.nilFunc, 8, false, false, false⟩
theorem tf96 : TF Try.prog 96 ti96 := ⟨Try.sizeOf96, Try.isAgg96, Try.underlying96, Try.zeroValue96, by kernel_rfl, by kernel_rfl, by kernel_rfl, by kernel_rfl⟩
def ti97 : TI := ⟨1, false, (TypeDesc.func #[69, 91] #[3] false), Value.nilFunc, 8, false, false, false⟩
theorem tf97 : TF Try.prog 97 ti97 := ⟨Try.sizeOf97, Try.isAgg97, Try.underlying97, Try.zeroValue97, by kernel_rfl, by kernel_rfl, by kernel_rfl, by kernel_rfl⟩
def ti98 : TI := ⟨1, false, (TypeDesc.int IntKind.u64), (Value.int IntKind.u64 0), 8, false, false, true⟩
theorem tf98 : TF Try.prog 98 ti98 := ⟨Try.sizeOf98, Try.isAgg98, Try.underlying98, Try.zeroValue98, by kernel_rfl, by kernel_rfl, by kernel_rfl, by kernel_rfl⟩
def ti99 : TI := ⟨1, false, (TypeDesc.func #[69] #[] false), Value.nilFunc, 8, false, false, false⟩
theorem tf99 : TF Try.prog 99 ti99 := ⟨Try.sizeOf99, Try.isAgg99, Try.underlying99, Try.zeroValue99, by kernel_rfl, by kernel_rfl, by kernel_rfl, by kernel_rfl⟩
def ti100 : TI := ⟨1, false, (TypeDesc.func #[] #[9] false), Value.nilFunc, 8, false, false, false⟩
theorem tf100 : TF Try.prog 100 ti100 := ⟨Try.sizeOf100, Try.isAgg100, Try.underlying100, Try.zeroValue100, by kernel_rfl, by kernel_rfl, by kernel_rfl, by kernel_rfl⟩
def ti103 : TI := ⟨0, true, (TypeDesc.array 0 16), (Value.agg #[]), 0, false, false, true⟩
theorem tf103 : TF Try.prog 103 ti103 := ⟨Try.sizeOf103, Try.isAgg103, Try.underlying103, Try.zeroValue103, by kernel_rfl, by kernel_rfl, by kernel_rfl, by kernel_rfl⟩
def ti106 : TI := ⟨1, false, (TypeDesc.int IntKind.u8), (Value.int IntKind.u8 0), 1, false, false, true⟩
theorem tf106 : TF Try.prog 106 ti106 := ⟨Try.sizeOf106, Try.isAgg106, Try.underlying106, Try.zeroValue106, by kernel_rfl, by kernel_rfl, by kernel_rfl, by kernel_rfl⟩
def ti107 : TI := ⟨1, false, (TypeDesc.int IntKind.u8), (Value.int IntKind.u8 0), 1, false, false, true⟩
theorem tf107 : TF Try.prog 107 ti107 := ⟨Try.sizeOf107, Try.isAgg107, Try.underlying107, Try.zeroValue107, by kernel_rfl, by kernel_rfl, by kernel_rfl, by kernel_rfl⟩
def ti108 : TI := ⟨1, false, (TypeDesc.func #[114, 114] #[4] false), Value.nilFunc, 8, false, false, false⟩
theorem tf108 : TF Try.prog 108 ti108 := ⟨Try.sizeOf108, Try.isAgg108, Try.underlying108, Try.zeroValue108, by kernel_rfl, by kernel_rfl, by kernel_rfl, by kernel_rfl⟩
def ti109 : TI := ⟨1, false, (TypeDesc.pointer 5), (Value.pointer none), 8, false, false, true⟩
theorem tf109 : TF Try.prog 109 ti109 := ⟨Try.sizeOf109, Try.isAgg109, Try.underlying109, Try.zeroValue109, by kernel_rfl, by kernel_rfl, by kernel_rfl, by kernel_rfl⟩
def ti110 : TI := ⟨1, false, (TypeDesc.int IntKind.i32), (Value.int IntKind.i32 0), 4, false, false, true⟩
theorem tf110 : TF Try.prog 110 ti110 := ⟨Try.sizeOf110, Try.isAgg110, Try.underlying110, Try.zeroValue110, by kernel_rfl, by kernel_rfl, by kernel_rfl, by kernel_rfl⟩
def ti111 : TI := ⟨1, false, (TypeDesc.int IntKind.i32), (Value.int IntKind.i32 0), 4, false, false, true⟩
theorem tf111 : TF Try.prog 111 ti111 := ⟨Try.sizeOf111, Try.isAgg111, Try.underlying111, Try.zeroValue111, by kernel_rfl, by kernel_rfl, by kernel_rfl, by kernel_rfl⟩
def tt : TT := [(1, ti1), (2, ti2), (3, ti3), (4, ti4), (5, ti5), (6, ti6), (9, ti9), (10, ti10), (11, ti11), (12, ti12), (15, ti15), (16, ti16), (17, ti17), (20, ti20), (21, ti21), (22, ti22), (23, ti23), (25, ti25), (26, ti26), (27, ti27), (29, ti29), (30, ti30), (31, ti31), (33, ti33), (35, ti35), (36, ti36), (37, ti37), (38, ti38), (39, ti39), (41, ti41), (42, ti42), (43, ti43), (44, ti44), (45, ti45), (46, ti46), (47, ti47), (48, ti48), (49, ti49), (50, ti50), (51, ti51), (52, ti52), (53, ti53), (54, ti54), (55, ti55), (56, ti56), (57, ti57), (58, ti58), (59, ti59), (61, ti61), (63, ti63), (64, ti64), (65, ti65), (66, ti66), (67, ti67), (68, ti68), (69, ti69), (70, ti70), (71, ti71), (72, ti72), (73, ti73), (74, ti74), (75, ti75), (76, ti76), (77, ti77), (78, ti78), (79, ti79), (80, ti80), (81, ti81), (82, ti82), (83, ti83), (84, ti84), (85, ti85), (87, ti87), (88, ti88), (89, ti89), (90, ti90), (91, ti91), (92, ti92), (93, ti93), (94, ti94), (95, ti95), (96, ti96), (97, ti97), (98, ti98), (99, ti99), (100, ti100), (103, ti103), (106, ti106), (107, ti107), (108, ti108), (109, ti109), (110, ti110), (111, ti111)]
theorem ttok : TTok Try.prog tt := TTok.cons tf1 (TTok.cons tf2 (TTok.cons tf3 (TTok.cons tf4 (TTok.cons tf5 (TTok.cons tf6 (TTok.cons tf9 (TTok.cons tf10 (TTok.cons tf11 (TTok.cons tf12 (TTok.cons tf15 (TTok.cons tf16 (TTok.cons tf17 (TTok.cons tf20 (TTok.cons tf21 (TTok.cons tf22 (TTok.cons tf23 (TTok.cons tf25 (TTok.cons tf26 (TTok.cons tf27 (TTok.cons tf29 (TTok.cons tf30 (TTok.cons tf31 (TTok.cons tf33 (TTok.cons tf35 (TTok.cons tf36 (TTok.cons tf37 (TTok.cons tf38 (TTok.cons tf39 (TTok.cons tf41 (TTok.cons tf42 (TTok.cons tf43 (TTok.cons tf44 (TTok.cons tf45 (TTok.cons tf46 (TTok.cons tf47 (TTok.cons tf48 (TTok.cons tf49 (TTok.cons tf50 (TTok.cons tf51 (TTok.cons tf52 (TTok.cons tf53 (TTok.cons tf54 (TTok.cons tf55 (TTok.cons tf56 (TTok.cons tf57 (TTok.cons tf58 (TTok.cons tf59 (TTok.cons tf61 (TTok.cons tf63 (TTok.cons tf64 (TTok.cons tf65 (TTok.cons tf66 (TTok.cons tf67 (TTok.cons tf68 (TTok.cons tf69 (TTok.cons tf70 (TTok.cons tf71 (TTok.cons tf72 (TTok.cons tf73 (TTok.cons tf74 (TTok.cons tf75 (TTok.cons tf76 (TTok.cons tf77 (TTok.cons tf78 (TTok.cons tf79 (TTok.cons tf80 (TTok.cons tf81 (TTok.cons tf82 (TTok.cons tf83 (TTok.cons tf84 (TTok.cons tf85 (TTok.cons tf87 (TTok.cons tf88 (TTok.cons tf89 (TTok.cons tf90 (TTok.cons tf91 (TTok.cons tf92 (TTok.cons tf93 (TTok.cons tf94 (TTok.cons tf95 (TTok.cons tf96 (TTok.cons tf97 (TTok.cons tf98 (TTok.cons tf99 (TTok.cons tf100 (TTok.cons tf103 (TTok.cons tf106 (TTok.cons tf107 (TTok.cons tf108 (TTok.cons tf109 (TTok.cons tf110 (TTok.cons tf111 (TTok.nil)))))))))))))))))))))))))))))))))))))))))))))))))))))))))))))))))))))))))))))))))))))))))))))
end Go.Eng
