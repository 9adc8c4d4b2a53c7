/- A part of the proof: what the functions of the program come to, told by a small reckoner of states. -/
import Derived.Test.YteglopjljejjkaaDoorA24
import Derived.Test.YteglopjljejjkaaDoorProg
import Derived.KernelRfl
namespace Go.Eng
open Go Go.RowKit Go.Proofs
instance : HasGl Tryd.prog := ⟨okTabs 0 1, okTabs_mono⟩
def ti1 : TI := ⟨1, false, (TypeDesc.func #[] #[] false), Value.nilFunc, 8, false, false, false⟩
theorem tf1 : TF Tryd.prog 1 ti1 := ⟨Tryd.sizeOf1, Tryd.isAgg1, Tryd.underlying1, Tryd.zeroValue1, by kernel_rfl, by kernel_rfl, by kernel_rfl, by kernel_rfl⟩
def ti2 : TI := ⟨1, false, (TypeDesc.int IntKind.i64), (Value.int IntKind.i64 0), 8, false, false, true⟩
theorem tf2 : TF Tryd.prog 2 ti2 := ⟨Tryd.sizeOf2, Tryd.isAgg2, Tryd.underlying2, Tryd.zeroValue2, by kernel_rfl, by kernel_rfl, by kernel_rfl, by kernel_rfl⟩
def ti3 : TI := ⟨1, false, (TypeDesc.int IntKind.i64), (Value.int IntKind.i64 0), 8, false, false, true⟩
theorem tf3 : TF Tryd.prog 3 ti3 := ⟨Tryd.sizeOf3, Tryd.isAgg3, Tryd.underlying3, Tryd.zeroValue3, by kernel_rfl, by kernel_rfl, by kernel_rfl, by kernel_rfl⟩
def ti4 : TI := ⟨1, false, TypeDesc.bool, (Value.bool false), 1, false, false, true⟩
theorem tf4 : TF Tryd.prog 4 ti4 := ⟨Tryd.sizeOf4, Tryd.isAgg4, Tryd.underlying4, Tryd.zeroValue4, by kernel_rfl, by kernel_rfl, by kernel_rfl, by kernel_rfl⟩
def ti5 : TI := ⟨1, false, (TypeDesc.int IntKind.u8), (Value.int IntKind.u8 0), 1, false, false, true⟩
theorem tf5 : TF Tryd.prog 5 ti5 := ⟨Tryd.sizeOf5, Tryd.isAgg5, Tryd.underlying5, Tryd.zeroValue5, by kernel_rfl, by kernel_rfl, by kernel_rfl, by kernel_rfl⟩
def ti6 : TI := ⟨1, false, (TypeDesc.int IntKind.u8), (Value.int IntKind.u8 0), 1, false, false, true⟩
theorem tf6 : TF Tryd.prog 6 ti6 := ⟨Tryd.sizeOf6, Tryd.isAgg6, Tryd.underlying6, Tryd.zeroValue6, by kernel_rfl, by kernel_rfl, by kernel_rfl, by kernel_rfl⟩
def ti9 : TI := ⟨1, false, TypeDesc.string, (Value.string { data := #[] }), 16, false, false, true⟩
theorem tf9 : TF Tryd.prog 9 ti9 := ⟨Tryd.sizeOf9, Tryd.isAgg9, Tryd.underlying9, Tryd.zeroValue9, by kernel_rfl, by kernel_rfl, by kernel_rfl, by kernel_rfl⟩
def ti10 : TI := ⟨1, false, TypeDesc.string, (Value.string { data := #[] }), 16, false, false, true⟩
theorem tf10 : TF Tryd.prog 10 ti10 := ⟨Tryd.sizeOf10, Tryd.isAgg10, Tryd.underlying10, Tryd.zeroValue10, by kernel_rfl, by kernel_rfl, by kernel_rfl, by kernel_rfl⟩
def ti11 : TI := ⟨1, false, TypeDesc.string, (Value.string { data := #[] }), 16, false, false, true⟩
theorem tf11 : TF Tryd.prog 11 ti11 := ⟨Tryd.sizeOf11, Tryd.isAgg11, Tryd.underlying11, Tryd.zeroValue11, by kernel_rfl, by kernel_rfl, by kernel_rfl, by kernel_rfl⟩
def ti12 : TI := ⟨1, false, (TypeDesc.int IntKind.u64), (Value.int IntKind.u64 0), 8, false, false, true⟩
theorem tf12 : TF Tryd.prog 12 ti12 := ⟨Tryd.sizeOf12, Tryd.isAgg12, Tryd.underlying12, Tryd.zeroValue12, by kernel_rfl, by kernel_rfl, by kernel_rfl, by kernel_rfl⟩
def ti15 : TI := ⟨1, false, (TypeDesc.pointer 80), (Value.pointer none), 8, false, false, true⟩
theorem tf15 : TF Tryd.prog 15 ti15 := ⟨Tryd.sizeOf15, Tryd.isAgg15, Tryd.underlying15, Tryd.zeroValue15, by kernel_rfl, by kernel_rfl, by kernel_rfl, by kernel_rfl⟩
def ti16 : TI := ⟨1, false, (TypeDesc.pointer 83), (Value.pointer none), 8, false, false, true⟩
theorem tf16 : TF Tryd.prog 16 ti16 := ⟨Tryd.sizeOf16, Tryd.isAgg16, Tryd.underlying16, Tryd.zeroValue16, by kernel_rfl, by kernel_rfl, by kernel_rfl, by kernel_rfl⟩
def ti17 : TI := ⟨1, false, (TypeDesc.pointer 92), (Value.pointer none), 8, false, false, true⟩
theorem tf17 : TF Tryd.prog 17 ti17 := ⟨Tryd.sizeOf17, Tryd.isAgg17, Tryd.underlying17, Tryd.zeroValue17, by kernel_rfl, by kernel_rfl, by kernel_rfl, by kernel_rfl⟩
def ti20 : TI := ⟨1, false, (TypeDesc.interface #[]), Value.nilIface, 16, false, false, true⟩
theorem tf20 : TF Tryd.prog 20 ti20 := ⟨Tryd.sizeOf20, Tryd.isAgg20, Tryd.underlying20, Tryd.zeroValue20, by kernel_rfl, by kernel_rfl, by kernel_rfl, by kernel_rfl⟩
def ti21 : TI := ⟨1, false, (TypeDesc.int IntKind.i32), (Value.int IntKind.i32 0), 4, false, false, true⟩
theorem tf21 : TF Tryd.prog 21 ti21 := ⟨Tryd.sizeOf21, Tryd.isAgg21, Tryd.underlying21, Tryd.zeroValue21, by kernel_rfl, by kernel_rfl, by kernel_rfl, by kernel_rfl⟩
def ti22 : TI := ⟨1, false, (TypeDesc.int IntKind.u32), (Value.int IntKind.u32 0), 4, false, false, true⟩
theorem tf22 : TF Tryd.prog 22 ti22 := ⟨Tryd.sizeOf22, Tryd.isAgg22, Tryd.underlying22, Tryd.zeroValue22, by kernel_rfl, by kernel_rfl, by kernel_rfl, by kernel_rfl⟩
def ti23 : TI := ⟨1, false, (TypeDesc.slice 5), (Value.slice none 0 0), 24, false, false, false⟩
theorem tf23 : TF Tryd.prog 23 ti23 := ⟨Tryd.sizeOf23, Tryd.isAgg23, Tryd.underlying23, Tryd.zeroValue23, by kernel_rfl, by kernel_rfl, by kernel_rfl, by kernel_rfl⟩
def ti24 : TI := ⟨1, false, (TypeDesc.func #[] #[4] false), Value.nilFunc, 8, false, false, false⟩
theorem tf24 : TF Tryd.prog 24 ti24 := ⟨Tryd.sizeOf24, Tryd.isAgg24, Tryd.underlying24, Tryd.zeroValue24, by kernel_rfl, by kernel_rfl, by kernel_rfl, by kernel_rfl⟩
def ti25 : TI := ⟨1, false, (TypeDesc.interface #[("Error", 78)]), Value.nilIface, 16, false, true, true⟩
theorem tf25 : TF Tryd.prog 25 ti25 := ⟨Tryd.sizeOf25, Tryd.isAgg25, Tryd.underlying25, Tryd.zeroValue25, by kernel_rfl, by kernel_rfl, by kernel_rfl, by kernel_rfl⟩
def ti26 : TI := ⟨1, false, (TypeDesc.interface #[("Error", 78)]), Value.nilIface, 16, false, true, true⟩
theorem tf26 : TF Tryd.prog 26 ti26 := ⟨Tryd.sizeOf26, Tryd.isAgg26, Tryd.underlying26, Tryd.zeroValue26, by kernel_rfl, by kernel_rfl, by kernel_rfl, by kernel_rfl⟩
def ti28 : TI := ⟨1, false, (TypeDesc.func #[23, 3] #[22, 3, 26] false), Value.nilFunc, 8, false, false, false⟩
theorem tf28 : TF Tryd.prog 28 ti28 := ⟨Tryd.sizeOf28, Tryd.isAgg28, Tryd.underlying28, Tryd.zeroValue28, by kernel_rfl, by kernel_rfl, by kernel_rfl, by kernel_rfl⟩
def ti30 : TI := ⟨1, false, (TypeDesc.func #[23, 3] #[22, 3, 4] false), Value.nilFunc, 8, false, false, false⟩
theorem tf30 : TF Tryd.prog 30 ti30 := ⟨Tryd.sizeOf30, Tryd.isAgg30, Tryd.underlying30, Tryd.zeroValue30, by kernel_rfl, by kernel_rfl, by kernel_rfl, by kernel_rfl⟩
def ti32 : TI := ⟨1, false, (TypeDesc.func #[23, 3] #[9, 3, 26] false), Value.nilFunc, 8, false, false, false⟩
theorem tf32 : TF Tryd.prog 32 ti32 := ⟨Tryd.sizeOf32, Tryd.isAgg32, Tryd.underlying32, Tryd.zeroValue32, by kernel_rfl, by kernel_rfl, by kernel_rfl, by kernel_rfl⟩
def ti34 : TI := ⟨1, false, (TypeDesc.func #[23, 3] #[9, 3, 4] false), Value.nilFunc, 8, false, false, false⟩
theorem tf34 : TF Tryd.prog 34 ti34 := ⟨Tryd.sizeOf34, Tryd.isAgg34, Tryd.underlying34, Tryd.zeroValue34, by kernel_rfl, by kernel_rfl, by kernel_rfl, by kernel_rfl⟩
def ti35 : TI := ⟨1, false, (TypeDesc.func #[26] #[3] false), Value.nilFunc, 8, false, false, false⟩
theorem tf35 : TF Tryd.prog 35 ti35 := ⟨Tryd.sizeOf35, Tryd.isAgg35, Tryd.underlying35, Tryd.zeroValue35, by kernel_rfl, by kernel_rfl, by kernel_rfl, by kernel_rfl⟩
def ti36 : TI := ⟨1, false, (TypeDesc.func #[22] #[23] false), Value.nilFunc, 8, false, false, false⟩
theorem tf36 : TF Tryd.prog 36 ti36 := ⟨Tryd.sizeOf36, Tryd.isAgg36, Tryd.underlying36, Tryd.zeroValue36, by kernel_rfl, by kernel_rfl, by kernel_rfl, by kernel_rfl⟩
def ti37 : TI := ⟨1, false, (TypeDesc.func #[9] #[23] false), Value.nilFunc, 8, false, false, false⟩
theorem tf37 : TF Tryd.prog 37 ti37 := ⟨Tryd.sizeOf37, Tryd.isAgg37, Tryd.underlying37, Tryd.zeroValue37, by kernel_rfl, by kernel_rfl, by kernel_rfl, by kernel_rfl⟩
def ti38 : TI := ⟨1, false, (TypeDesc.func #[22, 9, 23, 3] #[4] false), Value.nilFunc, 8, false, false, false⟩
theorem tf38 : TF Tryd.prog 38 ti38 := ⟨Tryd.sizeOf38, Tryd.isAgg38, Tryd.underlying38, Tryd.zeroValue38, by kernel_rfl, by kernel_rfl, by kernel_rfl, by kernel_rfl⟩
def ti39 : TI := ⟨1, false, (TypeDesc.slice 21), (Value.slice none 0 0), 24, false, false, false⟩
theorem tf39 : TF Tryd.prog 39 ti39 := ⟨Tryd.sizeOf39, Tryd.isAgg39, Tryd.underlying39, Tryd.zeroValue39, by kernel_rfl, by kernel_rfl, by kernel_rfl, by kernel_rfl⟩
def ti41 : TI := ⟨1, false, (TypeDesc.func #[9] #[39, 4] false), Value.nilFunc, 8, false, false, false⟩
theorem tf41 : TF Tryd.prog 41 ti41 := ⟨Tryd.sizeOf41, Tryd.isAgg41, Tryd.underlying41, Tryd.zeroValue41, by kernel_rfl, by kernel_rfl, by kernel_rfl, by kernel_rfl⟩
def ti42 : TI := ⟨1, false, (TypeDesc.func #[3, 3] #[3] false), Value.nilFunc, 8, false, false, false⟩
theorem tf42 : TF Tryd.prog 42 ti42 := ⟨Tryd.sizeOf42, Tryd.isAgg42, Tryd.underlying42, Tryd.zeroValue42, by kernel_rfl, by kernel_rfl, by kernel_rfl, by kernel_rfl⟩
def ti43 : TI := ⟨1, false, (TypeDesc.func #[22, 9, 23, 23, 3] #[4] false), Value.nilFunc, 8, false, false, false⟩
theorem tf43 : TF Tryd.prog 43 ti43 := ⟨Tryd.sizeOf43, Tryd.isAgg43, Tryd.underlying43, Tryd.zeroValue43, by kernel_rfl, by kernel_rfl, by kernel_rfl, by kernel_rfl⟩
def ti44 : TI := ⟨1, false, (TypeDesc.slice 49), (Value.slice none 0 0), 24, false, false, false⟩
theorem tf44 : TF Tryd.prog 44 ti44 := ⟨Tryd.sizeOf44, Tryd.isAgg44, Tryd.underlying44, Tryd.zeroValue44, by kernel_rfl, by kernel_rfl, by kernel_rfl, by kernel_rfl⟩
def ti45 : TI := ⟨1, false, (TypeDesc.slice 63), (Value.slice none 0 0), 24, false, false, false⟩
theorem tf45 : TF Tryd.prog 45 ti45 := ⟨Tryd.sizeOf45, Tryd.isAgg45, Tryd.underlying45, Tryd.zeroValue45, by kernel_rfl, by kernel_rfl, by kernel_rfl, by kernel_rfl⟩
def ti46 : TI := ⟨2, true, (TypeDesc.struct #[{ name := "Client", type := 22, offset := 0, embedded := false, tag := "", pkgPath := "", byteOffset := 0 }, { name := "Clock", type := 22, offset := 1, embedded := false, tag := "", pkgPath := "", byteOffset := 4 }]), (Value.agg #[Value.int IntKind.u32 0, Value.int IntKind.u32 0]), 8, false, false, true⟩
theorem tf46 : TF Tryd.prog 46 ti46 := ⟨Tryd.sizeOf46, Tryd.isAgg46, Tryd.underlying46, Tryd.zeroValue46, by kernel_rfl, by kernel_rfl, by kernel_rfl, by kernel_rfl⟩
def ti47 : TI := ⟨2, true, (TypeDesc.struct #[{ name := "Client", type := 22, offset := 0, embedded := false, tag := "", pkgPath := "", byteOffset := 0 }, { name := "Clock", type := 22, offset := 1, embedded := false, tag := "", pkgPath := "", byteOffset := 4 }]), (Value.agg #[Value.int IntKind.u32 0, Value.int IntKind.u32 0]), 8, false, false, true⟩
theorem tf47 : TF Tryd.prog 47 ti47 := ⟨Tryd.sizeOf47, Tryd.isAgg47, Tryd.underlying47, Tryd.zeroValue47, by kernel_rfl, by kernel_rfl, by kernel_rfl, by kernel_rfl⟩
def ti48 : TI := ⟨7, true, (TypeDesc.struct #[{ name := "Id", type := 47, offset := 0, embedded := false, tag := "", pkgPath := "", byteOffset := 0 }, { name := "Left", type := 47, offset := 2, embedded := false, tag := "", pkgPath := "", byteOffset := 8 }, { name := "Right", type := 47, offset := 4, embedded := false, tag := "", pkgPath := "", byteOffset := 16 }, { name := "Text", type := 9, offset := 6, embedded := false, tag := "", pkgPath := "", byteOffset := 24 }]), (Value.agg #[Value.int IntKind.u32 0, Value.int IntKind.u32 0, Value.int IntKind.u32 0, Value.int IntKind.u32 0, Value.int IntKind.u32 0, Value.int IntKind.u32 0, Value.string { data := #[] }]), 40, false, false, true⟩
theorem tf48 : TF Tryd.prog 48 ti48 := ⟨Tryd.sizeOf48, Tryd.isAgg48, Tryd.underlying48, Tryd.zeroValue48, by kernel_rfl, by kernel_rfl, by kernel_rfl, by kernel_rfl⟩
def ti49 : TI := ⟨7, true, (TypeDesc.struct #[{ name := "Id", type := 47, offset := 0, embedded := false, tag := "", pkgPath := "", byteOffset := 0 }, { name := "Left", type := 47, offset := 2, embedded := false, tag := "", pkgPath := "", byteOffset := 8 }, { name := "Right", type := 47, offset := 4, embedded := false, tag := "", pkgPath := "", byteOffset := 16 }, { name := "Text", type := 9, offset := 6, embedded := false, tag := "", pkgPath := "", byteOffset := 24 }]), (Value.agg #[Value.int IntKind.u32 0, Value.int IntKind.u32 0, Value.int IntKind.u32 0, Value.int IntKind.u32 0, Value.int IntKind.u32 0, Value.int IntKind.u32 0, Value.string { data := #[] }]), 40, false, false, true⟩
theorem tf49 : TF Tryd.prog 49 ti49 := ⟨Tryd.sizeOf49, Tryd.isAgg49, Tryd.underlying49, Tryd.zeroValue49, by kernel_rfl, by kernel_rfl, by kernel_rfl, by kernel_rfl⟩
def ti50 : TI := ⟨1, false, (TypeDesc.func #[49] #[4] false), Value.nilFunc, 8, false, false, false⟩
theorem tf50 : TF Tryd.prog 50 ti50 := ⟨Tryd.sizeOf50, Tryd.isAgg50, Tryd.underlying50, Tryd.zeroValue50, by kernel_rfl, by kernel_rfl, by kernel_rfl, by kernel_rfl⟩
def ti51 : TI := ⟨1, false, (TypeDesc.func #[45] #[45] false), Value.nilFunc, 8, false, false, false⟩
theorem tf51 : TF Tryd.prog 51 ti51 := ⟨Tryd.sizeOf51, Tryd.isAgg51, Tryd.underlying51, Tryd.zeroValue51, by kernel_rfl, by kernel_rfl, by kernel_rfl, by kernel_rfl⟩
def ti52 : TI := ⟨1, false, (TypeDesc.func #[45, 45] #[4] false), Value.nilFunc, 8, false, false, false⟩
theorem tf52 : TF Tryd.prog 52 ti52 := ⟨Tryd.sizeOf52, Tryd.isAgg52, Tryd.underlying52, Tryd.zeroValue52, by kernel_rfl, by kernel_rfl, by kernel_rfl, by kernel_rfl⟩
def ti53 : TI := ⟨1, false, (TypeDesc.func #[44] #[45] false), Value.nilFunc, 8, false, false, false⟩
theorem tf53 : TF Tryd.prog 53 ti53 := ⟨Tryd.sizeOf53, Tryd.isAgg53, Tryd.underlying53, Tryd.zeroValue53, by kernel_rfl, by kernel_rfl, by kernel_rfl, by kernel_rfl⟩
def ti54 : TI := ⟨1, false, (TypeDesc.func #[44, 44] #[3] false), Value.nilFunc, 8, false, false, false⟩
theorem tf54 : TF Tryd.prog 54 ti54 := ⟨Tryd.sizeOf54, Tryd.isAgg54, Tryd.underlying54, Tryd.zeroValue54, by kernel_rfl, by kernel_rfl, by kernel_rfl, by kernel_rfl⟩
def ti55 : TI := ⟨1, false, (TypeDesc.func #[45] #[44] false), Value.nilFunc, 8, false, false, false⟩
theorem tf55 : TF Tryd.prog 55 ti55 := ⟨Tryd.sizeOf55, Tryd.isAgg55, Tryd.underlying55, Tryd.zeroValue55, by kernel_rfl, by kernel_rfl, by kernel_rfl, by kernel_rfl⟩
def ti56 : TI := ⟨1, false, (TypeDesc.func #[44, 45] #[4] false), Value.nilFunc, 8, false, false, false⟩
theorem tf56 : TF Tryd.prog 56 ti56 := ⟨Tryd.sizeOf56, Tryd.isAgg56, Tryd.underlying56, Tryd.zeroValue56, by kernel_rfl, by kernel_rfl, by kernel_rfl, by kernel_rfl⟩
def ti57 : TI := ⟨1, false, (TypeDesc.func #[45] #[4] false), Value.nilFunc, 8, false, false, false⟩
theorem tf57 : TF Tryd.prog 57 ti57 := ⟨Tryd.sizeOf57, Tryd.isAgg57, Tryd.underlying57, Tryd.zeroValue57, by kernel_rfl, by kernel_rfl, by kernel_rfl, by kernel_rfl⟩
def ti58 : TI := ⟨1, false, (TypeDesc.int IntKind.i64), (Value.int IntKind.i64 0), 8, false, false, true⟩
theorem tf58 : TF Tryd.prog 58 ti58 := ⟨Tryd.sizeOf58, Tryd.isAgg58, Tryd.underlying58, Tryd.zeroValue58, by kernel_rfl, by kernel_rfl, by kernel_rfl, by kernel_rfl⟩
def ti59 : TI := ⟨1, false, (TypeDesc.int IntKind.u64), (Value.int IntKind.u64 0), 8, false, false, true⟩
theorem tf59 : TF Tryd.prog 59 ti59 := ⟨Tryd.sizeOf59, Tryd.isAgg59, Tryd.underlying59, Tryd.zeroValue59, by kernel_rfl, by kernel_rfl, by kernel_rfl, by kernel_rfl⟩
def ti60 : TI := ⟨1, false, (TypeDesc.int IntKind.u64), (Value.int IntKind.u64 0), 8, false, false, true⟩
theorem tf60 : TF Tryd.prog 60 ti60 := ⟨Tryd.sizeOf60, Tryd.isAgg60, Tryd.underlying60, Tryd.zeroValue60, by kernel_rfl, by kernel_rfl, by kernel_rfl, by kernel_rfl⟩
def ti61 : TI := ⟨1, false, (TypeDesc.func #[9] #[4] false), Value.nilFunc, 8, false, false, false⟩
theorem tf61 : TF Tryd.prog 61 ti61 := ⟨Tryd.sizeOf61, Tryd.isAgg61, Tryd.underlying61, Tryd.zeroValue61, by kernel_rfl, by kernel_rfl, by kernel_rfl, by kernel_rfl⟩
def ti62 : TI := ⟨7, true, (TypeDesc.struct #[{ name := "Id", type := 47, offset := 0, embedded := false, tag := "", pkgPath := "", byteOffset := 0 }, { name := "Left", type := 47, offset := 2, embedded := false, tag := "", pkgPath := "", byteOffset := 8 }, { name := "Right", type := 47, offset := 4, embedded := false, tag := "", pkgPath := "", byteOffset := 16 }, { name := "Ch", type := 21, offset := 6, embedded := false, tag := "", pkgPath := "", byteOffset := 24 }]), (Value.agg #[Value.int IntKind.u32 0, Value.int IntKind.u32 0, Value.int IntKind.u32 0, Value.int IntKind.u32 0, Value.int IntKind.u32 0, Value.int IntKind.u32 0, Value.int IntKind.i32 0]), 28, false, false, true⟩
theorem tf62 : TF Tryd.prog 62 ti62 := ⟨Tryd.sizeOf62, Tryd.isAgg62, Tryd.underlying62, Tryd.zeroValue62, by kernel_rfl, by kernel_rfl, by kernel_rfl, by kernel_rfl⟩
def ti63 : TI := ⟨7, true, (TypeDesc.struct #[{ name := "Id", type := 47, offset := 0, embedded := false, tag := "", pkgPath := "", byteOffset := 0 }, { name := "Left", type := 47, offset := 2, embedded := false, tag := "", pkgPath := "", byteOffset := 8 }, { name := "Right", type := 47, offset := 4, embedded := false, tag := "", pkgPath := "", byteOffset := 16 }, { name := "Ch", type := 21, offset := 6, embedded := false, tag := "", pkgPath := "", byteOffset := 24 }]), (Value.agg #[Value.int IntKind.u32 0, Value.int IntKind.u32 0, Value.int IntKind.u32 0, Value.int IntKind.u32 0, Value.int IntKind.u32 0, Value.int IntKind.u32 0, Value.int IntKind.i32 0]), 28, false, false, true⟩
theorem tf63 : TF Tryd.prog 63 ti63 := ⟨Tryd.sizeOf63, Tryd.isAgg63, Tryd.underlying63, Tryd.zeroValue63, by kernel_rfl, by kernel_rfl, by kernel_rfl, by kernel_rfl⟩
def ti64 : TI := ⟨1, false, (TypeDesc.func #[9] #[3] false), Value.nilFunc, 8, false, false, false⟩
theorem tf64 : TF Tryd.prog 64 ti64 := ⟨Tryd.sizeOf64, Tryd.isAgg64, Tryd.underlying64, Tryd.zeroValue64, by kernel_rfl, by kernel_rfl, by kernel_rfl, by kernel_rfl⟩
def ti66 : TI := ⟨1, false, (TypeDesc.func #[47, 3, 22] #[47, 26] false), Value.nilFunc, 8, false, false, false⟩
theorem tf66 : TF Tryd.prog 66 ti66 := ⟨Tryd.sizeOf66, Tryd.isAgg66, Tryd.underlying66, Tryd.zeroValue66, by kernel_rfl, by kernel_rfl, by kernel_rfl, by kernel_rfl⟩
def ti67 : TI := ⟨1, false, (TypeDesc.func #[21] #[4] false), Value.nilFunc, 8, false, false, false⟩
theorem tf67 : TF Tryd.prog 67 ti67 := ⟨Tryd.sizeOf67, Tryd.isAgg67, Tryd.underlying67, Tryd.zeroValue67, by kernel_rfl, by kernel_rfl, by kernel_rfl, by kernel_rfl⟩
def ti68 : TI := ⟨1, false, (TypeDesc.func #[47, 47] #[4] false), Value.nilFunc, 8, false, false, false⟩
theorem tf68 : TF Tryd.prog 68 ti68 := ⟨Tryd.sizeOf68, Tryd.isAgg68, Tryd.underlying68, Tryd.zeroValue68, by kernel_rfl, by kernel_rfl, by kernel_rfl, by kernel_rfl⟩
def ti69 : TI := ⟨1, false, (TypeDesc.func #[63, 63] #[4] false), Value.nilFunc, 8, false, false, false⟩
theorem tf69 : TF Tryd.prog 69 ti69 := ⟨Tryd.sizeOf69, Tryd.isAgg69, Tryd.underlying69, Tryd.zeroValue69, by kernel_rfl, by kernel_rfl, by kernel_rfl, by kernel_rfl⟩
def ti70 : TI := ⟨1, false, (TypeDesc.func #[9] #[12] false), Value.nilFunc, 8, false, false, false⟩
theorem tf70 : TF Tryd.prog 70 ti70 := ⟨Tryd.sizeOf70, Tryd.isAgg70, Tryd.underlying70, Tryd.zeroValue70, by kernel_rfl, by kernel_rfl, by kernel_rfl, by kernel_rfl⟩
def ti72 : TI := ⟨2, true, (TypeDesc.struct #[{ name := "lo", type := 5, offset := 0, embedded := false, tag := "", pkgPath := "unicode/utf8", byteOffset := 0 }, { name := "hi", type := 5, offset := 1, embedded := false, tag := "", pkgPath := "unicode/utf8", byteOffset := 1 }]), (Value.agg #[Value.int IntKind.u8 0, Value.int IntKind.u8 0]), 2, false, false, true⟩
theorem tf72 : TF Tryd.prog 72 ti72 := ⟨Tryd.sizeOf72, Tryd.isAgg72, Tryd.underlying72, Tryd.zeroValue72, by kernel_rfl, by kernel_rfl, by kernel_rfl, by kernel_rfl⟩
def ti73 : TI := ⟨2, true, (TypeDesc.struct #[{ name := "lo", type := 5, offset := 0, embedded := false, tag := "", pkgPath := "unicode/utf8", byteOffset := 0 }, { name := "hi", type := 5, offset := 1, embedded := false, tag := "", pkgPath := "unicode/utf8", byteOffset := 1 }]), (Value.agg #[Value.int IntKind.u8 0, Value.int IntKind.u8 0]), 2, false, false, true⟩
theorem tf73 : TF Tryd.prog 73 ti73 := ⟨Tryd.sizeOf73, Tryd.isAgg73, Tryd.underlying73, Tryd.zeroValue73, by kernel_rfl, by kernel_rfl, by kernel_rfl, by kernel_rfl⟩
def ti75 : TI := ⟨1, false, (TypeDesc.func #[47] #[4] false), Value.nilFunc, 8, false, false, false⟩
theorem tf75 : TF Tryd.prog 75 ti75 := ⟨Tryd.sizeOf75, Tryd.isAgg75, Tryd.underlying75, Tryd.zeroValue75, by kernel_rfl, by kernel_rfl, by kernel_rfl, by kernel_rfl⟩
def ti77 : TI := ⟨1, false, (TypeDesc.func #[47, 3, 22] #[47, 3] false), Value.nilFunc, 8, false, false, false⟩
theorem tf77 : TF Tryd.prog 77 ti77 := ⟨Tryd.sizeOf77, Tryd.isAgg77, Tryd.underlying77, Tryd.zeroValue77, by kernel_rfl, by kernel_rfl, by kernel_rfl, by kernel_rfl⟩
def ti78 : TI := ⟨1, false, (TypeDesc.func #[] #[9] false), Value.nilFunc, 8, false, false, false⟩
theorem tf78 : TF Tryd.prog 78 ti78 := ⟨Tryd.sizeOf78, Tryd.isAgg78, Tryd.underlying78, Tryd.zeroValue78, by kernel_rfl, by kernel_rfl, by kernel_rfl, by kernel_rfl⟩
def ti84 : TI := ⟨1, false, (TypeDesc.func #[] #[3] false), Value.nilFunc, 8, false, false, false⟩
theorem tf84 : TF Tryd.prog 84 ti84 := ⟨Tryd.sizeOf84, Tryd.isAgg84, Tryd.underlying84, Tryd.zeroValue84, by kernel_rfl, by kernel_rfl, by kernel_rfl, by kernel_rfl⟩
def ti85 : TI := ⟨1, false, (TypeDesc.int IntKind.u8), (Value.int IntKind.u8 0), 1, false, false, true⟩
theorem tf85 : TF Tryd.prog 85 ti85 := ⟨Tryd.sizeOf85, Tryd.isAgg85, Tryd.underlying85, Tryd.zeroValue85, by kernel_rfl, by kernel_rfl, by kernel_rfl, by kernel_rfl⟩
def ti86 : TI := ⟨1, false, (TypeDesc.int IntKind.u8), (Value.int IntKind.u8 0), 1, false, false, true⟩
theorem tf86 : TF Tryd.prog 86 ti86 := ⟨Tryd.sizeOf86, Tryd.isAgg86, Tryd.underlying86, Tryd.zeroValue86, by kernel_rfl, by kernel_rfl, by kernel_rfl, by kernel_rfl⟩
def ti87 : TI := ⟨1, false, (TypeDesc.func #[93, 93] #[4] false), Value.nilFunc, 8, false, false, false⟩
theorem tf87 : TF Tryd.prog 87 ti87 := ⟨Tryd.sizeOf87, Tryd.isAgg87, Tryd.underlying87, Tryd.zeroValue87, by kernel_rfl, by kernel_rfl, by kernel_rfl, by kernel_rfl⟩
def ti88 : TI := ⟨1, false, (TypeDesc.pointer 5), (Value.pointer none), 8, false, false, true⟩
theorem tf88 : TF Tryd.prog 88 ti88 := ⟨Tryd.sizeOf88, Tryd.isAgg88, Tryd.underlying88, Tryd.zeroValue88, by kernel_rfl, by kernel_rfl, by kernel_rfl, by kernel_rfl⟩
def ti89 : TI := ⟨1, false, (TypeDesc.int IntKind.i32), (Value.int IntKind.i32 0), 4, false, false, true⟩
theorem tf89 : TF Tryd.prog 89 ti89 := ⟨Tryd.sizeOf89, Tryd.isAgg89, Tryd.underlying89, Tryd.zeroValue89, by kernel_rfl, by kernel_rfl, by kernel_rfl, by kernel_rfl⟩
def ti90 : TI := ⟨1, false, (TypeDesc.int IntKind.i32), (Value.int IntKind.i32 0), 4, false, false, true⟩
theorem tf90 : TF Tryd.prog 90 ti90 := ⟨Tryd.sizeOf90, Tryd.isAgg90, Tryd.underlying90, Tryd.zeroValue90, by kernel_rfl, by kernel_rfl, by kernel_rfl, by kernel_rfl⟩
def tt : TT := [(1, ti1), (2, ti2), (3, ti3), (4, ti4), (5, ti5), (6, ti6), (9, ti9), (10, ti10), (11, ti11), (12, ti12), (15, ti15), (16, ti16), (17, ti17), (20, ti20), (21, ti21), (22, ti22), (23, ti23), (24, ti24), (25, ti25), (26, ti26), (28, ti28), (30, ti30), (32, ti32), (34, ti34), (35, ti35), (36, ti36), (37, ti37), (38, ti38), (39, ti39), (41, ti41), (42, ti42), (43, ti43), (44, ti44), (45, ti45), (46, ti46), (47, ti47), (48, ti48), (49, ti49), (50, ti50), (51, ti51), (52, ti52), (53, ti53), (54, ti54), (55, ti55), (56, ti56), (57, ti57), (58, ti58), (59, ti59), (60, ti60), (61, ti61), (62, ti62), (63, ti63), (64, ti64), (66, ti66), (67, ti67), (68, ti68), (69, ti69), (70, ti70), (72, ti72), (73, ti73), (75, ti75), (77, ti77), (78, ti78), (84, ti84), (85, ti85), (86, ti86), (87, ti87), (88, ti88), (89, ti89), (90, ti90)]
theorem ttok : TTok Tryd.prog tt := TTok.cons tf1 (TTok.cons tf2 (TTok.cons tf3 (TTok.cons tf4 (TTok.cons tf5 (TTok.cons tf6 (TTok.cons tf9 (TTok.cons tf10 (TTok.cons tf11 (TTok.cons tf12 (TTok.cons tf15 (TTok.cons tf16 (TTok.cons tf17 (TTok.cons tf20 (TTok.cons tf21 (TTok.cons tf22 (TTok.cons tf23 (TTok.cons tf24 (TTok.cons tf25 (TTok.cons tf26 (TTok.cons tf28 (TTok.cons tf30 (TTok.cons tf32 (TTok.cons tf34 (TTok.cons tf35 (TTok.cons tf36 (TTok.cons tf37 (TTok.cons tf38 (TTok.cons tf39 (TTok.cons tf41 (TTok.cons tf42 (TTok.cons tf43 (TTok.cons tf44 (TTok.cons tf45 (TTok.cons tf46 (TTok.cons tf47 (TTok.cons tf48 (TTok.cons tf49 (TTok.cons tf50 (TTok.cons tf51 (TTok.cons tf52 (TTok.cons tf53 (TTok.cons tf54 (TTok.cons tf55 (TTok.cons tf56 (TTok.cons tf57 (TTok.cons tf58 (TTok.cons tf59 (TTok.cons tf60 (TTok.cons tf61 (TTok.cons tf62 (TTok.cons tf63 (TTok.cons tf64 (TTok.cons tf66 (TTok.cons tf67 (TTok.cons tf68 (TTok.cons tf69 (TTok.cons tf70 (TTok.cons tf72 (TTok.cons tf73 (TTok.cons tf75 (TTok.cons tf77 (TTok.cons tf78 (TTok.cons tf84 (TTok.cons tf85 (TTok.cons tf86 (TTok.cons tf87 (TTok.cons tf88 (TTok.cons tf89 (TTok.cons tf90 (TTok.nil))))))))))))))))))))))))))))))))))))))))))))))))))))))))))))))))))))))
end Go.Eng
