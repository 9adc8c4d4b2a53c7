/- A part of the proof: what the functions of the program come to, told by a small reckoner of states. -/
import Derived.Test.YteglopjljejjkabDoorGA23TA25
import Derived.Test.YteglopjljejjkabDoorProg
import Derived.KernelRfl
import Derived.Ground.NamesProg
import Derived.Shelf.Lays
import Derived.Shelf.Unicode.ValidAny
import Derived.Lib.MapLaws
import Derived.Lib.ValidLaws
import Derived.Shelf.Utf8.RuneCount
namespace Go.Eng
open Go Go.RowKit Go.Proofs
instance : HasGl Tryd.prog := ⟨okTabs 0 1, okTabs_mono⟩
def ti1 : TI := ⟨1, false, (TypeDesc.func #[] #[] false), Value.nilFunc, 8, false, false, false⟩
theorem tf1 : TF Tryd.prog 1 ti1 := ⟨Tryd.sizeOf1, Tryd.isAgg1, Tryd.underlying1, Tryd.zeroValue1, by kernel_rfl, by kernel_rfl, by kernel_rfl, by kernel_rfl⟩
def ti2 : TI := ⟨1, false, (TypeDesc.int IntKind.i64), (Value.int IntKind.i64 0), 8, false, false, true⟩
theorem tf2 : TF Tryd.prog 2 ti2 := ⟨Tryd.sizeOf2, Tryd.isAgg2, Tryd.underlying2, Tryd.zeroValue2, by kernel_rfl, by kernel_rfl, by kernel_rfl, by kernel_rfl⟩
def ti3 : TI := ⟨1, false, (TypeDesc.int IntKind.i64), (Value.int IntKind.i64 0), 8, false, false, true⟩
theorem tf3 : TF Tryd.prog 3 ti3 := ⟨Tryd.sizeOf3, Tryd.isAgg3, Tryd.underlying3, Tryd.zeroValue3, by kernel_rfl, by kernel_rfl, by kernel_rfl, by kernel_rfl⟩
def ti4 : TI := ⟨1, false, TypeDesc.bool, (Value.bool false), 1, false, false, true⟩
theorem tf4 : TF Tryd.prog 4 ti4 := ⟨Tryd.sizeOf4, Tryd.isAgg4, Tryd.underlying4, Tryd.zeroValue4, by kernel_rfl, by kernel_rfl, by kernel_rfl, by kernel_rfl⟩
def ti5 : TI := ⟨1, false, (TypeDesc.int IntKind.u8), (Value.int IntKind.u8 0), 1, false, false, true⟩
theorem tf5 : TF Tryd.prog 5 ti5 := ⟨Tryd.sizeOf5, Tryd.isAgg5, Tryd.underlying5, Tryd.zeroValue5, by kernel_rfl, by kernel_rfl, by kernel_rfl, by kernel_rfl⟩
def ti6 : TI := ⟨1, false, (TypeDesc.int IntKind.u8), (Value.int IntKind.u8 0), 1, false, false, true⟩
theorem tf6 : TF Tryd.prog 6 ti6 := ⟨Tryd.sizeOf6, Tryd.isAgg6, Tryd.underlying6, Tryd.zeroValue6, by kernel_rfl, by kernel_rfl, by kernel_rfl, by kernel_rfl⟩
def ti9 : TI := ⟨1, false, TypeDesc.string, (Value.string { data := #[] }), 16, false, false, true⟩
theorem tf9 : TF Tryd.prog 9 ti9 := ⟨Tryd.sizeOf9, Tryd.isAgg9, Tryd.underlying9, Tryd.zeroValue9, by kernel_rfl, by kernel_rfl, by kernel_rfl, by kernel_rfl⟩
def ti10 : TI := ⟨1, false, TypeDesc.string, (Value.string { data := #[] }), 16, false, false, true⟩
theorem tf10 : TF Tryd.prog 10 ti10 := ⟨Tryd.sizeOf10, Tryd.isAgg10, Tryd.underlying10, Tryd.zeroValue10, by kernel_rfl, by kernel_rfl, by kernel_rfl, by kernel_rfl⟩
def ti11 : TI := ⟨1, false, TypeDesc.string, (Value.string { data := #[] }), 16, false, false, true⟩
theorem tf11 : TF Tryd.prog 11 ti11 := ⟨Tryd.sizeOf11, Tryd.isAgg11, Tryd.underlying11, Tryd.zeroValue11, by kernel_rfl, by kernel_rfl, by kernel_rfl, by kernel_rfl⟩
def ti12 : TI := ⟨1, false, (TypeDesc.int IntKind.u64), (Value.int IntKind.u64 0), 8, false, false, true⟩
theorem tf12 : TF Tryd.prog 12 ti12 := ⟨Tryd.sizeOf12, Tryd.isAgg12, Tryd.underlying12, Tryd.zeroValue12, by kernel_rfl, by kernel_rfl, by kernel_rfl, by kernel_rfl⟩
def ti15 : TI := ⟨1, false, (TypeDesc.pointer 111), (Value.pointer none), 8, false, false, true⟩
theorem tf15 : TF Tryd.prog 15 ti15 := ⟨Tryd.sizeOf15, Tryd.isAgg15, Tryd.underlying15, Tryd.zeroValue15, by kernel_rfl, by kernel_rfl, by kernel_rfl, by kernel_rfl⟩
def ti16 : TI := ⟨1, false, (TypeDesc.pointer 114), (Value.pointer none), 8, false, false, true⟩
theorem tf16 : TF Tryd.prog 16 ti16 := ⟨Tryd.sizeOf16, Tryd.isAgg16, Tryd.underlying16, Tryd.zeroValue16, by kernel_rfl, by kernel_rfl, by kernel_rfl, by kernel_rfl⟩
def ti17 : TI := ⟨1, false, (TypeDesc.pointer 123), (Value.pointer none), 8, false, false, true⟩
theorem tf17 : TF Tryd.prog 17 ti17 := ⟨Tryd.sizeOf17, Tryd.isAgg17, Tryd.underlying17, Tryd.zeroValue17, by kernel_rfl, by kernel_rfl, by kernel_rfl, by kernel_rfl⟩
def ti20 : TI := ⟨1, false, (TypeDesc.interface #[]), Value.nilIface, 16, false, false, true⟩
theorem tf20 : TF Tryd.prog 20 ti20 := ⟨Tryd.sizeOf20, Tryd.isAgg20, Tryd.underlying20, Tryd.zeroValue20, by kernel_rfl, by kernel_rfl, by kernel_rfl, by kernel_rfl⟩
def ti21 : TI := ⟨1, false, (TypeDesc.int IntKind.i32), (Value.int IntKind.i32 0), 4, false, false, true⟩
theorem tf21 : TF Tryd.prog 21 ti21 := ⟨Tryd.sizeOf21, Tryd.isAgg21, Tryd.underlying21, Tryd.zeroValue21, by kernel_rfl, by kernel_rfl, by kernel_rfl, by kernel_rfl⟩
def ti22 : TI := ⟨1, false, (TypeDesc.slice 49), (Value.slice none 0 0), 24, false, false, false⟩
theorem tf22 : TF Tryd.prog 22 ti22 := ⟨Tryd.sizeOf22, Tryd.isAgg22, Tryd.underlying22, Tryd.zeroValue22, by kernel_rfl, by kernel_rfl, by kernel_rfl, by kernel_rfl⟩
def ti23 : TI := ⟨1, false, (TypeDesc.slice 62), (Value.slice none 0 0), 24, false, false, false⟩
theorem tf23 : TF Tryd.prog 23 ti23 := ⟨Tryd.sizeOf23, Tryd.isAgg23, Tryd.underlying23, Tryd.zeroValue23, by kernel_rfl, by kernel_rfl, by kernel_rfl, by kernel_rfl⟩
def ti24 : TI := ⟨2, true, (TypeDesc.struct #[{ name := "Runs", type := 22, offset := 0, embedded := false, tag := "", pkgPath := "", byteOffset := 0 }, { name := "Deletes", type := 23, offset := 1, embedded := false, tag := "", pkgPath := "", byteOffset := 24 }]), (Value.agg #[Value.slice none 0 0, Value.slice none 0 0]), 48, false, false, false⟩
theorem tf24 : TF Tryd.prog 24 ti24 := ⟨Tryd.sizeOf24, Tryd.isAgg24, Tryd.underlying24, Tryd.zeroValue24, by kernel_rfl, by kernel_rfl, by kernel_rfl, by kernel_rfl⟩
def ti25 : TI := ⟨2, true, (TypeDesc.struct #[{ name := "Runs", type := 22, offset := 0, embedded := false, tag := "", pkgPath := "", byteOffset := 0 }, { name := "Deletes", type := 23, offset := 1, embedded := false, tag := "", pkgPath := "", byteOffset := 24 }]), (Value.agg #[Value.slice none 0 0, Value.slice none 0 0]), 48, false, false, false⟩
theorem tf25 : TF Tryd.prog 25 ti25 := ⟨Tryd.sizeOf25, Tryd.isAgg25, Tryd.underlying25, Tryd.zeroValue25, by kernel_rfl, by kernel_rfl, by kernel_rfl, by kernel_rfl⟩
def ti26 : TI := ⟨1, false, (TypeDesc.slice 5), (Value.slice none 0 0), 24, false, false, false⟩
theorem tf26 : TF Tryd.prog 26 ti26 := ⟨Tryd.sizeOf26, Tryd.isAgg26, Tryd.underlying26, Tryd.zeroValue26, by kernel_rfl, by kernel_rfl, by kernel_rfl, by kernel_rfl⟩
def ti27 : TI := ⟨1, false, (TypeDesc.func #[] #[4] false), Value.nilFunc, 8, false, false, false⟩
theorem tf27 : TF Tryd.prog 27 ti27 := ⟨Tryd.sizeOf27, Tryd.isAgg27, Tryd.underlying27, Tryd.zeroValue27, by kernel_rfl, by kernel_rfl, by kernel_rfl, by kernel_rfl⟩
def ti28 : TI := ⟨1, false, (TypeDesc.func #[25] #[3] false), Value.nilFunc, 8, false, false, false⟩
theorem tf28 : TF Tryd.prog 28 ti28 := ⟨Tryd.sizeOf28, Tryd.isAgg28, Tryd.underlying28, Tryd.zeroValue28, by kernel_rfl, by kernel_rfl, by kernel_rfl, by kernel_rfl⟩
def ti29 : TI := ⟨1, false, (TypeDesc.func #[25] #[4] false), Value.nilFunc, 8, false, false, false⟩
theorem tf29 : TF Tryd.prog 29 ti29 := ⟨Tryd.sizeOf29, Tryd.isAgg29, Tryd.underlying29, Tryd.zeroValue29, by kernel_rfl, by kernel_rfl, by kernel_rfl, by kernel_rfl⟩
def ti30 : TI := ⟨1, false, (TypeDesc.interface #[("Error", 86)]), Value.nilIface, 16, false, true, true⟩
theorem tf30 : TF Tryd.prog 30 ti30 := ⟨Tryd.sizeOf30, Tryd.isAgg30, Tryd.underlying30, Tryd.zeroValue30, by kernel_rfl, by kernel_rfl, by kernel_rfl, by kernel_rfl⟩
def ti31 : TI := ⟨1, false, (TypeDesc.interface #[("Error", 86)]), Value.nilIface, 16, false, true, true⟩
theorem tf31 : TF Tryd.prog 31 ti31 := ⟨Tryd.sizeOf31, Tryd.isAgg31, Tryd.underlying31, Tryd.zeroValue31, by kernel_rfl, by kernel_rfl, by kernel_rfl, by kernel_rfl⟩
def ti33 : TI := ⟨1, false, (TypeDesc.func #[25] #[26, 31] false), Value.nilFunc, 8, false, false, false⟩
theorem tf33 : TF Tryd.prog 33 ti33 := ⟨Tryd.sizeOf33, Tryd.isAgg33, Tryd.underlying33, Tryd.zeroValue33, by kernel_rfl, by kernel_rfl, by kernel_rfl, by kernel_rfl⟩
def ti35 : TI := ⟨1, false, (TypeDesc.func #[25] #[26, 4] false), Value.nilFunc, 8, false, false, false⟩
theorem tf35 : TF Tryd.prog 35 ti35 := ⟨Tryd.sizeOf35, Tryd.isAgg35, Tryd.underlying35, Tryd.zeroValue35, by kernel_rfl, by kernel_rfl, by kernel_rfl, by kernel_rfl⟩
def ti37 : TI := ⟨1, false, (TypeDesc.func #[26] #[25, 31] false), Value.nilFunc, 8, false, false, false⟩
theorem tf37 : TF Tryd.prog 37 ti37 := ⟨Tryd.sizeOf37, Tryd.isAgg37, Tryd.underlying37, Tryd.zeroValue37, by kernel_rfl, by kernel_rfl, by kernel_rfl, by kernel_rfl⟩
def ti39 : TI := ⟨1, false, (TypeDesc.func #[26] #[25, 4] false), Value.nilFunc, 8, false, false, false⟩
theorem tf39 : TF Tryd.prog 39 ti39 := ⟨Tryd.sizeOf39, Tryd.isAgg39, Tryd.underlying39, Tryd.zeroValue39, by kernel_rfl, by kernel_rfl, by kernel_rfl, by kernel_rfl⟩
def ti40 : TI := ⟨1, false, (TypeDesc.func #[25, 25] #[4] false), Value.nilFunc, 8, false, false, false⟩
theorem tf40 : TF Tryd.prog 40 ti40 := ⟨Tryd.sizeOf40, Tryd.isAgg40, Tryd.underlying40, Tryd.zeroValue40, by kernel_rfl, by kernel_rfl, by kernel_rfl, by kernel_rfl⟩
def ti41 : TI := ⟨1, false, (TypeDesc.func #[31] #[3] false), Value.nilFunc, 8, false, false, false⟩
theorem tf41 : TF Tryd.prog 41 ti41 := ⟨Tryd.sizeOf41, Tryd.isAgg41, Tryd.underlying41, Tryd.zeroValue41, by kernel_rfl, by kernel_rfl, by kernel_rfl, by kernel_rfl⟩
def ti42 : TI := ⟨1, false, (TypeDesc.func #[25, 26] #[4] false), Value.nilFunc, 8, false, false, false⟩
theorem tf42 : TF Tryd.prog 42 ti42 := ⟨Tryd.sizeOf42, Tryd.isAgg42, Tryd.underlying42, Tryd.zeroValue42, by kernel_rfl, by kernel_rfl, by kernel_rfl, by kernel_rfl⟩
def ti43 : TI := ⟨1, false, (TypeDesc.func #[3, 3] #[3] false), Value.nilFunc, 8, false, false, false⟩
theorem tf43 : TF Tryd.prog 43 ti43 := ⟨Tryd.sizeOf43, Tryd.isAgg43, Tryd.underlying43, Tryd.zeroValue43, by kernel_rfl, by kernel_rfl, by kernel_rfl, by kernel_rfl⟩
def ti44 : TI := ⟨1, false, (TypeDesc.func #[25, 26, 3, 5] #[4] false), Value.nilFunc, 8, false, false, false⟩
theorem tf44 : TF Tryd.prog 44 ti44 := ⟨Tryd.sizeOf44, Tryd.isAgg44, Tryd.underlying44, Tryd.zeroValue44, by kernel_rfl, by kernel_rfl, by kernel_rfl, by kernel_rfl⟩
def ti45 : TI := ⟨1, false, (TypeDesc.int IntKind.u32), (Value.int IntKind.u32 0), 4, false, false, true⟩
theorem tf45 : TF Tryd.prog 45 ti45 := ⟨Tryd.sizeOf45, Tryd.isAgg45, Tryd.underlying45, Tryd.zeroValue45, by kernel_rfl, by kernel_rfl, by kernel_rfl, by kernel_rfl⟩
def ti46 : TI := ⟨2, true, (TypeDesc.struct #[{ name := "Client", type := 45, offset := 0, embedded := false, tag := "", pkgPath := "", byteOffset := 0 }, { name := "Clock", type := 45, offset := 1, embedded := false, tag := "", pkgPath := "", byteOffset := 4 }]), (Value.agg #[Value.int IntKind.u32 0, Value.int IntKind.u32 0]), 8, false, false, true⟩
theorem tf46 : TF Tryd.prog 46 ti46 := ⟨Tryd.sizeOf46, Tryd.isAgg46, Tryd.underlying46, Tryd.zeroValue46, by kernel_rfl, by kernel_rfl, by kernel_rfl, by kernel_rfl⟩
def ti47 : TI := ⟨2, true, (TypeDesc.struct #[{ name := "Client", type := 45, offset := 0, embedded := false, tag := "", pkgPath := "", byteOffset := 0 }, { name := "Clock", type := 45, offset := 1, embedded := false, tag := "", pkgPath := "", byteOffset := 4 }]), (Value.agg #[Value.int IntKind.u32 0, Value.int IntKind.u32 0]), 8, false, false, true⟩
theorem tf47 : TF Tryd.prog 47 ti47 := ⟨Tryd.sizeOf47, Tryd.isAgg47, Tryd.underlying47, Tryd.zeroValue47, by kernel_rfl, by kernel_rfl, by kernel_rfl, by kernel_rfl⟩
def ti48 : TI := ⟨7, true, (TypeDesc.struct #[{ name := "Id", type := 47, offset := 0, embedded := false, tag := "", pkgPath := "", byteOffset := 0 }, { name := "Left", type := 47, offset := 2, embedded := false, tag := "", pkgPath := "", byteOffset := 8 }, { name := "Right", type := 47, offset := 4, embedded := false, tag := "", pkgPath := "", byteOffset := 16 }, { name := "Text", type := 9, offset := 6, embedded := false, tag := "", pkgPath := "", byteOffset := 24 }]), (Value.agg #[Value.int IntKind.u32 0, Value.int IntKind.u32 0, Value.int IntKind.u32 0, Value.int IntKind.u32 0, Value.int IntKind.u32 0, Value.int IntKind.u32 0, Value.string { data := #[] }]), 40, false, false, true⟩
theorem tf48 : TF Tryd.prog 48 ti48 := ⟨Tryd.sizeOf48, Tryd.isAgg48, Tryd.underlying48, Tryd.zeroValue48, by kernel_rfl, by kernel_rfl, by kernel_rfl, by kernel_rfl⟩
def ti49 : TI := ⟨7, true, (TypeDesc.struct #[{ name := "Id", type := 47, offset := 0, embedded := false, tag := "", pkgPath := "", byteOffset := 0 }, { name := "Left", type := 47, offset := 2, embedded := false, tag := "", pkgPath := "", byteOffset := 8 }, { name := "Right", type := 47, offset := 4, embedded := false, tag := "", pkgPath := "", byteOffset := 16 }, { name := "Text", type := 9, offset := 6, embedded := false, tag := "", pkgPath := "", byteOffset := 24 }]), (Value.agg #[Value.int IntKind.u32 0, Value.int IntKind.u32 0, Value.int IntKind.u32 0, Value.int IntKind.u32 0, Value.int IntKind.u32 0, Value.int IntKind.u32 0, Value.string { data := #[] }]), 40, false, false, true⟩
theorem tf49 : TF Tryd.prog 49 ti49 := ⟨Tryd.sizeOf49, Tryd.isAgg49, Tryd.underlying49, Tryd.zeroValue49, by kernel_rfl, by kernel_rfl, by kernel_rfl, by kernel_rfl⟩
def ti50 : TI := ⟨1, false, (TypeDesc.func #[49] #[4] false), Value.nilFunc, 8, false, false, false⟩
theorem tf50 : TF Tryd.prog 50 ti50 := ⟨Tryd.sizeOf50, Tryd.isAgg50, Tryd.underlying50, Tryd.zeroValue50, by kernel_rfl, by kernel_rfl, by kernel_rfl, by kernel_rfl⟩
def ti51 : TI := ⟨1, false, (TypeDesc.func #[23] #[4] false), Value.nilFunc, 8, false, false, false⟩
theorem tf51 : TF Tryd.prog 51 ti51 := ⟨Tryd.sizeOf51, Tryd.isAgg51, Tryd.underlying51, Tryd.zeroValue51, by kernel_rfl, by kernel_rfl, by kernel_rfl, by kernel_rfl⟩
def ti52 : TI := ⟨1, false, (TypeDesc.slice 56), (Value.slice none 0 0), 24, false, false, false⟩
theorem tf52 : TF Tryd.prog 52 ti52 := ⟨Tryd.sizeOf52, Tryd.isAgg52, Tryd.underlying52, Tryd.zeroValue52, by kernel_rfl, by kernel_rfl, by kernel_rfl, by kernel_rfl⟩
def ti53 : TI := ⟨1, false, (TypeDesc.func #[22] #[52] false), Value.nilFunc, 8, false, false, false⟩
theorem tf53 : TF Tryd.prog 53 ti53 := ⟨Tryd.sizeOf53, Tryd.isAgg53, Tryd.underlying53, Tryd.zeroValue53, by kernel_rfl, by kernel_rfl, by kernel_rfl, by kernel_rfl⟩
def ti54 : TI := ⟨1, false, (TypeDesc.func #[47, 47] #[4] false), Value.nilFunc, 8, false, false, false⟩
theorem tf54 : TF Tryd.prog 54 ti54 := ⟨Tryd.sizeOf54, Tryd.isAgg54, Tryd.underlying54, Tryd.zeroValue54, by kernel_rfl, by kernel_rfl, by kernel_rfl, by kernel_rfl⟩
def ti55 : TI := ⟨7, true, (TypeDesc.struct #[{ name := "Id", type := 47, offset := 0, embedded := false, tag := "", pkgPath := "", byteOffset := 0 }, { name := "Left", type := 47, offset := 2, embedded := false, tag := "", pkgPath := "", byteOffset := 8 }, { name := "Right", type := 47, offset := 4, embedded := false, tag := "", pkgPath := "", byteOffset := 16 }, { name := "Ch", type := 21, offset := 6, embedded := false, tag := "", pkgPath := "", byteOffset := 24 }]), (Value.agg #[Value.int IntKind.u32 0, Value.int IntKind.u32 0, Value.int IntKind.u32 0, Value.int IntKind.u32 0, Value.int IntKind.u32 0, Value.int IntKind.u32 0, Value.int IntKind.i32 0]), 28, false, false, true⟩
theorem tf55 : TF Tryd.prog 55 ti55 := ⟨Tryd.sizeOf55, Tryd.isAgg55, Tryd.underlying55, Tryd.zeroValue55, by kernel_rfl, by kernel_rfl, by kernel_rfl, by kernel_rfl⟩
def ti56 : TI := ⟨7, true, (TypeDesc.struct #[{ name := "Id", type := 47, offset := 0, embedded := false, tag := "", pkgPath := "", byteOffset := 0 }, { name := "Left", type := 47, offset := 2, embedded := false, tag := "", pkgPath := "", byteOffset := 8 }, { name := "Right", type := 47, offset := 4, embedded := false, tag := "", pkgPath := "", byteOffset := 16 }, { name := "Ch", type := 21, offset := 6, embedded := false, tag := "", pkgPath := "", byteOffset := 24 }]), (Value.agg #[Value.int IntKind.u32 0, Value.int IntKind.u32 0, Value.int IntKind.u32 0, Value.int IntKind.u32 0, Value.int IntKind.u32 0, Value.int IntKind.u32 0, Value.int IntKind.i32 0]), 28, false, false, true⟩
theorem tf56 : TF Tryd.prog 56 ti56 := ⟨Tryd.sizeOf56, Tryd.isAgg56, Tryd.underlying56, Tryd.zeroValue56, by kernel_rfl, by kernel_rfl, by kernel_rfl, by kernel_rfl⟩
def ti57 : TI := ⟨1, false, (TypeDesc.func #[52] #[22] false), Value.nilFunc, 8, false, false, false⟩
theorem tf57 : TF Tryd.prog 57 ti57 := ⟨Tryd.sizeOf57, Tryd.isAgg57, Tryd.underlying57, Tryd.zeroValue57, by kernel_rfl, by kernel_rfl, by kernel_rfl, by kernel_rfl⟩
def ti58 : TI := ⟨1, false, (TypeDesc.int IntKind.i64), (Value.int IntKind.i64 0), 8, false, false, true⟩
theorem tf58 : TF Tryd.prog 58 ti58 := ⟨Tryd.sizeOf58, Tryd.isAgg58, Tryd.underlying58, Tryd.zeroValue58, by kernel_rfl, by kernel_rfl, by kernel_rfl, by kernel_rfl⟩
def ti59 : TI := ⟨1, false, (TypeDesc.func #[26, 71] #[26] true), Value.nilFunc, 8, false, false, false⟩
theorem tf59 : TF Tryd.prog 59 ti59 := ⟨Tryd.sizeOf59, Tryd.isAgg59, Tryd.underlying59, Tryd.zeroValue59, by kernel_rfl, by kernel_rfl, by kernel_rfl, by kernel_rfl⟩
def ti60 : TI := ⟨1, false, (TypeDesc.func #[9] #[26] false), Value.nilFunc, 8, false, false, false⟩
theorem tf60 : TF Tryd.prog 60 ti60 := ⟨Tryd.sizeOf60, Tryd.isAgg60, Tryd.underlying60, Tryd.zeroValue60, by kernel_rfl, by kernel_rfl, by kernel_rfl, by kernel_rfl⟩
def ti61 : TI := ⟨3, true, (TypeDesc.struct #[{ name := "Client", type := 45, offset := 0, embedded := false, tag := "", pkgPath := "", byteOffset := 0 }, { name := "From", type := 45, offset := 1, embedded := false, tag := "", pkgPath := "", byteOffset := 4 }, { name := "To", type := 45, offset := 2, embedded := false, tag := "", pkgPath := "", byteOffset := 8 }]), (Value.agg #[Value.int IntKind.u32 0, Value.int IntKind.u32 0, Value.int IntKind.u32 0]), 12, false, false, true⟩
theorem tf61 : TF Tryd.prog 61 ti61 := ⟨Tryd.sizeOf61, Tryd.isAgg61, Tryd.underlying61, Tryd.zeroValue61, by kernel_rfl, by kernel_rfl, by kernel_rfl, by kernel_rfl⟩
def ti62 : TI := ⟨3, true, (TypeDesc.struct #[{ name := "Client", type := 45, offset := 0, embedded := false, tag := "", pkgPath := "", byteOffset := 0 }, { name := "From", type := 45, offset := 1, embedded := false, tag := "", pkgPath := "", byteOffset := 4 }, { name := "To", type := 45, offset := 2, embedded := false, tag := "", pkgPath := "", byteOffset := 8 }]), (Value.agg #[Value.int IntKind.u32 0, Value.int IntKind.u32 0, Value.int IntKind.u32 0]), 12, false, false, true⟩
theorem tf62 : TF Tryd.prog 62 ti62 := ⟨Tryd.sizeOf62, Tryd.isAgg62, Tryd.underlying62, Tryd.zeroValue62, by kernel_rfl, by kernel_rfl, by kernel_rfl, by kernel_rfl⟩
def ti63 : TI := ⟨1, false, (TypeDesc.func #[45] #[26] false), Value.nilFunc, 8, false, false, false⟩
theorem tf63 : TF Tryd.prog 63 ti63 := ⟨Tryd.sizeOf63, Tryd.isAgg63, Tryd.underlying63, Tryd.zeroValue63, by kernel_rfl, by kernel_rfl, by kernel_rfl, by kernel_rfl⟩
def ti64 : TI := ⟨1, false, (TypeDesc.func #[47] #[26] false), Value.nilFunc, 8, false, false, false⟩
theorem tf64 : TF Tryd.prog 64 ti64 := ⟨Tryd.sizeOf64, Tryd.isAgg64, Tryd.underlying64, Tryd.zeroValue64, by kernel_rfl, by kernel_rfl, by kernel_rfl, by kernel_rfl⟩
def ti65 : TI := ⟨1, false, (TypeDesc.pointer 67), (Value.pointer none), 8, false, false, true⟩
theorem tf65 : TF Tryd.prog 65 ti65 := ⟨Tryd.sizeOf65, Tryd.isAgg65, Tryd.underlying65, Tryd.zeroValue65, by kernel_rfl, by kernel_rfl, by kernel_rfl, by kernel_rfl⟩
def ti66 : TI := ⟨3, true, (TypeDesc.struct #[{ name := "b", type := 26, offset := 0, embedded := false, tag := "", pkgPath := "surcingle/batch", byteOffset := 0 }, { name := "at", type := 3, offset := 1, embedded := false, tag := "", pkgPath := "surcingle/batch", byteOffset := 24 }, { name := "bad", type := 31, offset := 2, embedded := false, tag := "", pkgPath := "surcingle/batch", byteOffset := 32 }]), (Value.agg #[Value.slice none 0 0, Value.int IntKind.i64 0, Value.nilIface]), 48, false, true, false⟩
theorem tf66 : TF Tryd.prog 66 ti66 := ⟨Tryd.sizeOf66, Tryd.isAgg66, Tryd.underlying66, Tryd.zeroValue66, by kernel_rfl, by kernel_rfl, by kernel_rfl, by kernel_rfl⟩
def ti67 : TI := ⟨3, true, (TypeDesc.struct #[{ name := "b", type := 26, offset := 0, embedded := false, tag := "", pkgPath := "surcingle/batch", byteOffset := 0 }, { name := "at", type := 3, offset := 1, embedded := false, tag := "", pkgPath := "surcingle/batch", byteOffset := 24 }, { name := "bad", type := 31, offset := 2, embedded := false, tag := "", pkgPath := "surcingle/batch", byteOffset := 32 }]), (Value.agg #[Value.slice none 0 0, Value.int IntKind.i64 0, Value.nilIface]), 48, false, true, false⟩
theorem tf67 : TF Tryd.prog 67 ti67 := ⟨Tryd.sizeOf67, Tryd.isAgg67, Tryd.underlying67, Tryd.zeroValue67, by kernel_rfl, by kernel_rfl, by kernel_rfl, by kernel_rfl⟩
def ti68 : TI := ⟨1, false, (TypeDesc.func #[] #[45] false), Value.nilFunc, 8, false, false, false⟩
theorem tf68 : TF Tryd.prog 68 ti68 := ⟨Tryd.sizeOf68, Tryd.isAgg68, Tryd.underlying68, Tryd.zeroValue68, by kernel_rfl, by kernel_rfl, by kernel_rfl, by kernel_rfl⟩
def ti69 : TI := ⟨1, false, (TypeDesc.func #[] #[49] false), Value.nilFunc, 8, false, false, false⟩
theorem tf69 : TF Tryd.prog 69 ti69 := ⟨Tryd.sizeOf69, Tryd.isAgg69, Tryd.underlying69, Tryd.zeroValue69, by kernel_rfl, by kernel_rfl, by kernel_rfl, by kernel_rfl⟩
def ti70 : TI := ⟨1, false, (TypeDesc.func #[] #[62] false), Value.nilFunc, 8, false, false, false⟩
theorem tf70 : TF Tryd.prog 70 ti70 := ⟨Tryd.sizeOf70, Tryd.isAgg70, Tryd.underlying70, Tryd.zeroValue70, by kernel_rfl, by kernel_rfl, by kernel_rfl, by kernel_rfl⟩
def ti71 : TI := ⟨1, false, (TypeDesc.slice 45), (Value.slice none 0 0), 24, false, false, false⟩
theorem tf71 : TF Tryd.prog 71 ti71 := ⟨Tryd.sizeOf71, Tryd.isAgg71, Tryd.underlying71, Tryd.zeroValue71, by kernel_rfl, by kernel_rfl, by kernel_rfl, by kernel_rfl⟩
def ti73 : TI := ⟨1, false, (TypeDesc.func #[26, 3, 3] #[71, 3, 4] false), Value.nilFunc, 8, false, false, false⟩
theorem tf73 : TF Tryd.prog 73 ti73 := ⟨Tryd.sizeOf73, Tryd.isAgg73, Tryd.underlying73, Tryd.zeroValue73, by kernel_rfl, by kernel_rfl, by kernel_rfl, by kernel_rfl⟩
def ti75 : TI := ⟨1, false, (TypeDesc.func #[26, 3] #[9, 3, 4] false), Value.nilFunc, 8, false, false, false⟩
theorem tf75 : TF Tryd.prog 75 ti75 := ⟨Tryd.sizeOf75, Tryd.isAgg75, Tryd.underlying75, Tryd.zeroValue75, by kernel_rfl, by kernel_rfl, by kernel_rfl, by kernel_rfl⟩
def ti76 : TI := ⟨1, false, (TypeDesc.func #[23, 23] #[4] false), Value.nilFunc, 8, false, false, false⟩
theorem tf76 : TF Tryd.prog 76 ti76 := ⟨Tryd.sizeOf76, Tryd.isAgg76, Tryd.underlying76, Tryd.zeroValue76, by kernel_rfl, by kernel_rfl, by kernel_rfl, by kernel_rfl⟩
def ti77 : TI := ⟨1, false, (TypeDesc.func #[22, 50] #[4] false), Value.nilFunc, 8, false, false, false⟩
theorem tf77 : TF Tryd.prog 77 ti77 := ⟨Tryd.sizeOf77, Tryd.isAgg77, Tryd.underlying77, Tryd.zeroValue77, by kernel_rfl, by kernel_rfl, by kernel_rfl, by kernel_rfl⟩
def ti78 : TI := ⟨1, false, (TypeDesc.func #[47, 47] #[3] false), Value.nilFunc, 8, false, false, false⟩
theorem tf78 : TF Tryd.prog 78 ti78 := ⟨Tryd.sizeOf78, Tryd.isAgg78, Tryd.underlying78, Tryd.zeroValue78, by kernel_rfl, by kernel_rfl, by kernel_rfl, by kernel_rfl⟩
def ti79 : TI := ⟨1, false, (TypeDesc.slice 21), (Value.slice none 0 0), 24, false, false, false⟩
theorem tf79 : TF Tryd.prog 79 ti79 := ⟨Tryd.sizeOf79, Tryd.isAgg79, Tryd.underlying79, Tryd.zeroValue79, by kernel_rfl, by kernel_rfl, by kernel_rfl, by kernel_rfl⟩
def ti81 : TI := ⟨1, false, (TypeDesc.func #[9] #[79, 4] false), Value.nilFunc, 8, false, false, false⟩
theorem tf81 : TF Tryd.prog 81 ti81 := ⟨Tryd.sizeOf81, Tryd.isAgg81, Tryd.underlying81, Tryd.zeroValue81, by kernel_rfl, by kernel_rfl, by kernel_rfl, by kernel_rfl⟩
def ti82 : TI := ⟨1, false, (TypeDesc.func #[56, 56] #[4] false), Value.nilFunc, 8, false, false, false⟩
theorem tf82 : TF Tryd.prog 82 ti82 := ⟨Tryd.sizeOf82, Tryd.isAgg82, Tryd.underlying82, Tryd.zeroValue82, by kernel_rfl, by kernel_rfl, by kernel_rfl, by kernel_rfl⟩
def ti84 : TI := ⟨1, false, (TypeDesc.func #[26, 3] #[45, 3, 31] false), Value.nilFunc, 8, false, false, false⟩
theorem tf84 : TF Tryd.prog 84 ti84 := ⟨Tryd.sizeOf84, Tryd.isAgg84, Tryd.underlying84, Tryd.zeroValue84, by kernel_rfl, by kernel_rfl, by kernel_rfl, by kernel_rfl⟩
def ti85 : TI := ⟨1, false, (TypeDesc.func #[] #[47] false), Value.nilFunc, 8, false, false, false⟩
theorem tf85 : TF Tryd.prog 85 ti85 := ⟨Tryd.sizeOf85, Tryd.isAgg85, Tryd.underlying85, Tryd.zeroValue85, by kernel_rfl, by kernel_rfl, by kernel_rfl, by kernel_rfl⟩
def ti86 : TI := ⟨1, false, (TypeDesc.func #[] #[9] false), Value.nilFunc, 8, false, false, false⟩
theorem tf86 : TF Tryd.prog 86 ti86 := ⟨Tryd.sizeOf86, Tryd.isAgg86, Tryd.underlying86, Tryd.zeroValue86, by kernel_rfl, by kernel_rfl, by kernel_rfl, by kernel_rfl⟩
def ti88 : TI := ⟨1, false, (TypeDesc.func #[26, 3] #[45, 3, 4] false), Value.nilFunc, 8, false, false, false⟩
theorem tf88 : TF Tryd.prog 88 ti88 := ⟨Tryd.sizeOf88, Tryd.isAgg88, Tryd.underlying88, Tryd.zeroValue88, by kernel_rfl, by kernel_rfl, by kernel_rfl, by kernel_rfl⟩
def ti89 : TI := ⟨1, false, (TypeDesc.func #[22, 50] #[3] false), Value.nilFunc, 8, false, false, false⟩
theorem tf89 : TF Tryd.prog 89 ti89 := ⟨Tryd.sizeOf89, Tryd.isAgg89, Tryd.underlying89, Tryd.zeroValue89, by kernel_rfl, by kernel_rfl, by kernel_rfl, by kernel_rfl⟩
def ti90 : TI := ⟨1, false, (TypeDesc.func #[9] #[3] false), Value.nilFunc, 8, false, false, false⟩
theorem tf90 : TF Tryd.prog 90 ti90 := ⟨Tryd.sizeOf90, Tryd.isAgg90, Tryd.underlying90, Tryd.zeroValue90, by kernel_rfl, by kernel_rfl, by kernel_rfl, by kernel_rfl⟩
def ti91 : TI := ⟨1, false, (TypeDesc.func #[9] #[4] false), Value.nilFunc, 8, false, false, false⟩
theorem tf91 : TF Tryd.prog 91 ti91 := ⟨Tryd.sizeOf91, Tryd.isAgg91, Tryd.underlying91, Tryd.zeroValue91, by kernel_rfl, by kernel_rfl, by kernel_rfl, by kernel_rfl⟩
def ti93 : TI := ⟨1, false, (TypeDesc.func #[47, 3, 45] #[47, 31] false), Value.nilFunc, 8, false, false, false⟩
theorem tf93 : TF Tryd.prog 93 ti93 := ⟨Tryd.sizeOf93, Tryd.isAgg93, Tryd.underlying93, Tryd.zeroValue93, by kernel_rfl, by kernel_rfl, by kernel_rfl, by kernel_rfl⟩
def ti94 : TI := ⟨1, false, (TypeDesc.func #[108] #[3] true), Value.nilFunc, 8, false, false, false⟩
theorem tf94 : TF Tryd.prog 94 ti94 := ⟨Tryd.sizeOf94, Tryd.isAgg94, Tryd.underlying94, Tryd.zeroValue94, by kernel_rfl, by kernel_rfl, by kernel_rfl, by kernel_rfl⟩
def ti95 : TI := ⟨1, false, (TypeDesc.func #[45, 45] #[3] false), Value.nilFunc, 8, false, false, false⟩
theorem tf95 : TF Tryd.prog 95 ti95 := ⟨Tryd.sizeOf95, Tryd.isAgg95, Tryd.underlying95, Tryd.zeroValue95, by kernel_rfl, by kernel_rfl, by kernel_rfl, by kernel_rfl⟩
def ti97 : TI := ⟨1, false, (TypeDesc.func #[47, 3, 45] #[47, 3] false), Value.nilFunc, 8, false, false, false⟩
theorem tf97 : TF Tryd.prog 97 ti97 := ⟨Tryd.sizeOf97, Tryd.isAgg97, Tryd.underlying97, Tryd.zeroValue97, by kernel_rfl, by kernel_rfl, by kernel_rfl, by kernel_rfl⟩
def ti98 : TI := ⟨1, false, (TypeDesc.int IntKind.u64), (Value.int IntKind.u64 0), 8, false, false, true⟩
theorem tf98 : TF Tryd.prog 98 ti98 := ⟨Tryd.sizeOf98, Tryd.isAgg98, Tryd.underlying98, Tryd.zeroValue98, by kernel_rfl, by kernel_rfl, by kernel_rfl, by kernel_rfl⟩
def ti100 : TI := ⟨1, false, (TypeDesc.func #[26, 3] #[9, 3, 31] false), Value.nilFunc, 8, false, false, false⟩
theorem tf100 : TF Tryd.prog 100 ti100 := ⟨Tryd.sizeOf100, Tryd.isAgg100, Tryd.underlying100, Tryd.zeroValue100, by kernel_rfl, by kernel_rfl, by kernel_rfl, by kernel_rfl⟩
def ti101 : TI := ⟨1, false, (TypeDesc.func #[9] #[12] false), Value.nilFunc, 8, false, false, false⟩
theorem tf101 : TF Tryd.prog 101 ti101 := ⟨Tryd.sizeOf101, Tryd.isAgg101, Tryd.underlying101, Tryd.zeroValue101, by kernel_rfl, by kernel_rfl, by kernel_rfl, by kernel_rfl⟩
def ti103 : TI := ⟨2, true, (TypeDesc.struct #[{ name := "lo", type := 5, offset := 0, embedded := false, tag := "", pkgPath := "unicode/utf8", byteOffset := 0 }, { name := "hi", type := 5, offset := 1, embedded := false, tag := "", pkgPath := "unicode/utf8", byteOffset := 1 }]), (Value.agg #[Value.int IntKind.u8 0, Value.int IntKind.u8 0]), 2, false, false, true⟩
theorem tf103 : TF Tryd.prog 103 ti103 := ⟨Tryd.sizeOf103, Tryd.isAgg103, Tryd.underlying103, Tryd.zeroValue103, by kernel_rfl, by kernel_rfl, by kernel_rfl, by kernel_rfl⟩
def ti104 : TI := ⟨2, true, (TypeDesc.struct #[{ name := "lo", type := 5, offset := 0, embedded := false, tag := "", pkgPath := "unicode/utf8", byteOffset := 0 }, { name := "hi", type := 5, offset := 1, embedded := false, tag := "", pkgPath := "unicode/utf8", byteOffset := 1 }]), (Value.agg #[Value.int IntKind.u8 0, Value.int IntKind.u8 0]), 2, false, false, true⟩
theorem tf104 : TF Tryd.prog 104 ti104 := ⟨Tryd.sizeOf104, Tryd.isAgg104, Tryd.underlying104, Tryd.zeroValue104, by kernel_rfl, by kernel_rfl, by kernel_rfl, by kernel_rfl⟩
def ti106 : TI := ⟨1, false, (TypeDesc.func #[47] #[4] false), Value.nilFunc, 8, false, false, false⟩
theorem tf106 : TF Tryd.prog 106 ti106 := ⟨Tryd.sizeOf106, Tryd.isAgg106, Tryd.underlying106, Tryd.zeroValue106, by kernel_rfl, by kernel_rfl, by kernel_rfl, by kernel_rfl⟩
def ti107 : TI := ⟨1, false, (TypeDesc.int IntKind.u64), (Value.int IntKind.u64 0), 8, false, false, true⟩
theorem tf107 : TF Tryd.prog 107 ti107 := ⟨Tryd.sizeOf107, Tryd.isAgg107, Tryd.underlying107, Tryd.zeroValue107, by kernel_rfl, by kernel_rfl, by kernel_rfl, by kernel_rfl⟩
def ti108 : TI := ⟨1, false, (TypeDesc.slice 3), (Value.slice none 0 0), 24, false, false, false⟩
theorem tf108 : TF Tryd.prog 108 ti108 := ⟨Tryd.sizeOf108, Tryd.isAgg108, Tryd.underlying108, Tryd.zeroValue108, by kernel_rfl, by kernel_rfl, by kernel_rfl, by kernel_rfl⟩
def ti109 : TI := ⟨1, false, (TypeDesc.func #[45] #[4] false), Value.nilFunc, 8, false, false, false⟩
theorem tf109 : TF Tryd.prog 109 ti109 := ⟨Tryd.sizeOf109, Tryd.isAgg109, Tryd.underlying109, Tryd.zeroValue109, by kernel_rfl, by kernel_rfl, by kernel_rfl, by kernel_rfl⟩
def ti115 : TI := ⟨1, false, (TypeDesc.func #[] #[3] false), Value.nilFunc, 8, false, false, false⟩
theorem tf115 : TF Tryd.prog 115 ti115 := ⟨Tryd.sizeOf115, Tryd.isAgg115, Tryd.underlying115, Tryd.zeroValue115, by kernel_rfl, by kernel_rfl, by kernel_rfl, by kernel_rfl⟩
def ti116 : TI := ⟨1, false, (TypeDesc.int IntKind.u8), (Value.int IntKind.u8 0), 1, false, false, true⟩
theorem tf116 : TF Tryd.prog 116 ti116 := ⟨Tryd.sizeOf116, Tryd.isAgg116, Tryd.underlying116, Tryd.zeroValue116, by kernel_rfl, by kernel_rfl, by kernel_rfl, by kernel_rfl⟩
def ti117 : TI := ⟨1, false, (TypeDesc.int IntKind.u8), (Value.int IntKind.u8 0), 1, false, false, true⟩
theorem tf117 : TF Tryd.prog 117 ti117 := ⟨Tryd.sizeOf117, Tryd.isAgg117, Tryd.underlying117, Tryd.zeroValue117, by kernel_rfl, by kernel_rfl, by kernel_rfl, by kernel_rfl⟩
def ti118 : TI := ⟨1, false, (TypeDesc.func #[124, 124] #[4] false), Value.nilFunc, 8, false, false, false⟩
theorem tf118 : TF Tryd.prog 118 ti118 := ⟨Tryd.sizeOf118, Tryd.isAgg118, Tryd.underlying118, Tryd.zeroValue118, by kernel_rfl, by kernel_rfl, by kernel_rfl, by kernel_rfl⟩
def ti119 : TI := ⟨1, false, (TypeDesc.pointer 5), (Value.pointer none), 8, false, false, true⟩
theorem tf119 : TF Tryd.prog 119 ti119 := ⟨Tryd.sizeOf119, Tryd.isAgg119, Tryd.underlying119, Tryd.zeroValue119, by kernel_rfl, by kernel_rfl, by kernel_rfl, by kernel_rfl⟩
def ti120 : TI := ⟨1, false, (TypeDesc.int IntKind.i32), (Value.int IntKind.i32 0), 4, false, false, true⟩
theorem tf120 : TF Tryd.prog 120 ti120 := ⟨Tryd.sizeOf120, Tryd.isAgg120, Tryd.underlying120, Tryd.zeroValue120, by kernel_rfl, by kernel_rfl, by kernel_rfl, by kernel_rfl⟩
def ti121 : TI := ⟨1, false, (TypeDesc.int IntKind.i32), (Value.int IntKind.i32 0), 4, false, false, true⟩
theorem tf121 : TF Tryd.prog 121 ti121 := ⟨Tryd.sizeOf121, Tryd.isAgg121, Tryd.underlying121, Tryd.zeroValue121, by kernel_rfl, by kernel_rfl, by kernel_rfl, by kernel_rfl⟩
def tt : TT := [(1, ti1), (2, ti2), (3, ti3), (4, ti4), (5, ti5), (6, ti6), (9, ti9), (10, ti10), (11, ti11), (12, ti12), (15, ti15), (16, ti16), (17, ti17), (20, ti20), (21, ti21), (22, ti22), (23, ti23), (24, ti24), (25, ti25), (26, ti26), (27, ti27), (28, ti28), (29, ti29), (30, ti30), (31, ti31), (33, ti33), (35, ti35), (37, ti37), (39, ti39), (40, ti40), (41, ti41), (42, ti42), (43, ti43), (44, ti44), (45, ti45), (46, ti46), (47, ti47), (48, ti48), (49, ti49), (50, ti50), (51, ti51), (52, ti52), (53, ti53), (54, ti54), (55, ti55), (56, ti56), (57, ti57), (58, ti58), (59, ti59), (60, ti60), (61, ti61), (62, ti62), (63, ti63), (64, ti64), (65, ti65), (66, ti66), (67, ti67), (68, ti68), (69, ti69), (70, ti70), (71, ti71), (73, ti73), (75, ti75), (76, ti76), (77, ti77), (78, ti78), (79, ti79), (81, ti81), (82, ti82), (84, ti84), (85, ti85), (86, ti86), (88, ti88), (89, ti89), (90, ti90), (91, ti91), (93, ti93), (94, ti94), (95, ti95), (97, ti97), (98, ti98), (100, ti100), (101, ti101), (103, ti103), (104, ti104), (106, ti106), (107, ti107), (108, ti108), (109, ti109), (115, ti115), (116, ti116), (117, ti117), (118, ti118), (119, ti119), (120, ti120), (121, ti121)]
theorem ttok : TTok Tryd.prog tt := TTok.cons tf1 (TTok.cons tf2 (TTok.cons tf3 (TTok.cons tf4 (TTok.cons tf5 (TTok.cons tf6 (TTok.cons tf9 (TTok.cons tf10 (TTok.cons tf11 (TTok.cons tf12 (TTok.cons tf15 (TTok.cons tf16 (TTok.cons tf17 (TTok.cons tf20 (TTok.cons tf21 (TTok.cons tf22 (TTok.cons tf23 (TTok.cons tf24 (TTok.cons tf25 (TTok.cons tf26 (TTok.cons tf27 (TTok.cons tf28 (TTok.cons tf29 (TTok.cons tf30 (TTok.cons tf31 (TTok.cons tf33 (TTok.cons tf35 (TTok.cons tf37 (TTok.cons tf39 (TTok.cons tf40 (TTok.cons tf41 (TTok.cons tf42 (TTok.cons tf43 (TTok.cons tf44 (TTok.cons tf45 (TTok.cons tf46 (TTok.cons tf47 (TTok.cons tf48 (TTok.cons tf49 (TTok.cons tf50 (TTok.cons tf51 (TTok.cons tf52 (TTok.cons tf53 (TTok.cons tf54 (TTok.cons tf55 (TTok.cons tf56 (TTok.cons tf57 (TTok.cons tf58 (TTok.cons tf59 (TTok.cons tf60 (TTok.cons tf61 (TTok.cons tf62 (TTok.cons tf63 (TTok.cons tf64 (TTok.cons tf65 (TTok.cons tf66 (TTok.cons tf67 (TTok.cons tf68 (TTok.cons tf69 (TTok.cons tf70 (TTok.cons tf71 (TTok.cons tf73 (TTok.cons tf75 (TTok.cons tf76 (TTok.cons tf77 (TTok.cons tf78 (TTok.cons tf79 (TTok.cons tf81 (TTok.cons tf82 (TTok.cons tf84 (TTok.cons tf85 (TTok.cons tf86 (TTok.cons tf88 (TTok.cons tf89 (TTok.cons tf90 (TTok.cons tf91 (TTok.cons tf93 (TTok.cons tf94 (TTok.cons tf95 (TTok.cons tf97 (TTok.cons tf98 (TTok.cons tf100 (TTok.cons tf101 (TTok.cons tf103 (TTok.cons tf104 (TTok.cons tf106 (TTok.cons tf107 (TTok.cons tf108 (TTok.cons tf109 (TTok.cons tf115 (TTok.cons tf116 (TTok.cons tf117 (TTok.cons tf118 (TTok.cons tf119 (TTok.cons tf120 (TTok.cons tf121 (TTok.nil))))))))))))))))))))))))))))))))))))))))))))))))))))))))))))))))))))))))))))))))))))))))))))))))
end Go.Eng
/- The functions of the seat. -/
set_option maxRecDepth 100000
namespace Go.Eng
open Go Go.RowKit Go.Proofs
def ft : FL := [(3, some true), (4, some true), (5, some true), (6, some true), (7, some true), (8, some true), (9, some true), (10, some true), (11, some true), (12, some true), (13, some true), (14, some true), (15, some true), (16, some true), (17, some true), (18, some true), (19, some true), (20, some true), (21, some false), (22, some true), (23, some true), (24, some true), (25, some true), (26, some true), (27, some true), (28, some true), (29, some true), (30, some true), (31, some true), (32, some true), (33, some true), (34, some true), (35, some true), (36, some true), (37, some true), (38, some true), (39, some true), (40, some true), (41, some true), (42, some true), (43, some true), (44, some true), (45, some true), (46, some true), (47, some true), (48, some true), (49, some true), (50, some true), (51, some true), (52, some true), (53, some true), (54, some true), (55, some true), (56, some true), (57, some true), (73, none), (75, none), (76, none), (77, none), (78, none), (79, some true)]
theorem ftok : FTok Tryd.prog ft := FTok.cons Tryd.func3 (by kernel_rfl) rfl (FTok.cons Tryd.func4 (by kernel_rfl) rfl (FTok.cons Tryd.func5 (by kernel_rfl) rfl (FTok.cons Tryd.func6 (by kernel_rfl) rfl (FTok.cons Tryd.func7 (by kernel_rfl) rfl (FTok.cons Tryd.func8 (by kernel_rfl) rfl (FTok.cons Tryd.func9 (by kernel_rfl) rfl (FTok.cons Tryd.func10 (by kernel_rfl) rfl (FTok.cons Tryd.func11 (by kernel_rfl) rfl (FTok.cons Tryd.func12 (by kernel_rfl) rfl (FTok.cons Tryd.func13 (by kernel_rfl) rfl (FTok.cons Tryd.func14 (by kernel_rfl) rfl (FTok.cons Tryd.func15 (by kernel_rfl) rfl (FTok.cons Tryd.func16 (by kernel_rfl) rfl (FTok.cons Tryd.func17 (by kernel_rfl) rfl (FTok.cons Tryd.func18 (by kernel_rfl) rfl (FTok.cons Tryd.func19 (by kernel_rfl) rfl (FTok.cons Tryd.func20 (by kernel_rfl) rfl (FTok.cons Tryd.func21 (by kernel_rfl) rfl (FTok.cons Tryd.func22 (by kernel_rfl) rfl (FTok.cons Tryd.func23 (by kernel_rfl) rfl (FTok.cons Tryd.func24 (by kernel_rfl) rfl (FTok.cons Tryd.func25 (by kernel_rfl) rfl (FTok.cons Tryd.func26 (by kernel_rfl) rfl (FTok.cons Tryd.func27 (by kernel_rfl) rfl (FTok.cons Tryd.func28 (by kernel_rfl) rfl (FTok.cons Tryd.func29 (by kernel_rfl) rfl (FTok.cons Tryd.func30 (by kernel_rfl) rfl (FTok.cons Tryd.func31 (by kernel_rfl) rfl (FTok.cons Tryd.func32 (by kernel_rfl) rfl (FTok.cons Tryd.func33 (by kernel_rfl) rfl (FTok.cons Tryd.func34 (by kernel_rfl) rfl (FTok.cons Tryd.func35 (by kernel_rfl) rfl (FTok.cons Tryd.func36 (by kernel_rfl) rfl (FTok.cons Tryd.func37 (by kernel_rfl) rfl (FTok.cons Tryd.func38 (by kernel_rfl) rfl (FTok.cons Tryd.func39 (by kernel_rfl) rfl (FTok.cons Tryd.func40 (by kernel_rfl) rfl (FTok.cons Tryd.func41 (by kernel_rfl) rfl (FTok.cons Tryd.func42 (by kernel_rfl) rfl (FTok.cons Tryd.func43 (by kernel_rfl) rfl (FTok.cons Tryd.func44 (by kernel_rfl) rfl (FTok.cons Tryd.func45 (by kernel_rfl) rfl (FTok.cons Tryd.func46 (by kernel_rfl) rfl (FTok.cons Tryd.func47 (by kernel_rfl) rfl (FTok.cons Tryd.func48 (by kernel_rfl) rfl (FTok.cons Tryd.func49 (by kernel_rfl) rfl (FTok.cons Tryd.func50 (by kernel_rfl) rfl (FTok.cons Tryd.func51 (by kernel_rfl) rfl (FTok.cons Tryd.func52 (by kernel_rfl) rfl (FTok.cons Tryd.func53 (by kernel_rfl) rfl (FTok.cons Tryd.func54 (by kernel_rfl) rfl (FTok.cons Tryd.func55 (by kernel_rfl) rfl (FTok.cons Tryd.func56 (by kernel_rfl) rfl (FTok.cons Tryd.func57 (by kernel_rfl) rfl (FTok.consX (FTok.consX (FTok.consX (FTok.consX (FTok.consX (FTok.cons Tryd.func79 (by kernel_rfl) rfl (FTok.nil)))))))))))))))))))))))))))))))))))))))))))))))))))))))))))))
theorem mixed : Tryd.prog.follows .mixedOrders = true := by kernel_rfl
end Go.Eng
namespace Go.Eng
open Go
theorem w_u32 (x : Int) : IntKind.u32.wrap x = x % 4294967296 := by unfold IntKind.wrap IntKind.bits IntKind.signed; simp
theorem w_u64 (x : Int) : IntKind.u64.wrap x = x % 18446744073709551616 := by unfold IntKind.wrap IntKind.bits IntKind.signed; simp
theorem w_u16 (x : Int) : IntKind.u16.wrap x = x % 65536 := by unfold IntKind.wrap IntKind.bits IntKind.signed; simp
theorem w_u8 (x : Int) : IntKind.u8.wrap x = x % 256 := by unfold IntKind.wrap IntKind.bits IntKind.signed; simp
theorem w_i64 {x : Int} (h1 : -9223372036854775808 ≤ x) (h2 : x ≤ 9223372036854775807) : IntKind.i64.wrap x = x := by
  unfold IntKind.wrap IntKind.bits IntKind.signed
  simp
  split <;> omega
theorem wf_u32 {n : Int} (h : (Lit.int .u32 n).wf = true) : 0 ≤ n ∧ n ≤ 4294967295 := by
  simp [Lit.wf, IntKind.min, IntKind.max, IntKind.bits, IntKind.signed] at h
  omega
theorem wf_u16 {n : Int} (h : (Lit.int .u16 n).wf = true) : 0 ≤ n ∧ n ≤ 65535 := by
  simp [Lit.wf, IntKind.min, IntKind.max, IntKind.bits, IntKind.signed] at h
  omega
theorem wf_u8 {n : Int} (h : (Lit.int .u8 n).wf = true) : 0 ≤ n ∧ n ≤ 255 := by
  simp [Lit.wf, IntKind.min, IntKind.max, IntKind.bits, IntKind.signed] at h
  omega
theorem wf_u64 {n : Int} (h : (Lit.int .u64 n).wf = true) : 0 ≤ n ∧ n ≤ 18446744073709551615 := by
  simp [Lit.wf, IntKind.min, IntKind.max, IntKind.bits, IntKind.signed] at h
  omega
theorem wf_i64 {n : Int} (h : (Lit.int .i64 n).wf = true) : -9223372036854775808 ≤ n ∧ n ≤ 9223372036854775807 := by
  simp [Lit.wf, IntKind.min, IntKind.max, IntKind.bits, IntKind.signed] at h
  omega
end Go.Eng
set_option linter.unusedVariables false
namespace Go.Eng
open Go Go.RowKit Go.Proofs
abbrev vu (n : Int) : IC := .v (.int .u32 n)
abbrev vi (n : Int) : IC := .v (.int .i64 n)
abbrev vr (n : Int) : IC := .v (.int .i32 n)
abbrev vci (k : IntKind) (n : Int) : AV := .c (.v (.int k n))
abbrev vcb (b : Bool) : AV := .c (.v (.bool b))
abbrev vcs (s : ByteArray) : AV := .c (.v (.string s))
abbrev nilS : AV := .c (.v (.slice none 0 0))
abbrev rns (l : List Int) : AV := .c (.sl 1 l.length (runeF l))
theorem getD_take {α : Type} (l : List α) (n j : Nat) (d : α) (h : j < n) : (l.take n).getD j d = l.getD j d := by simp only [List.getD_eq_getElem?_getD, List.getElem?_take, if_pos h]
theorem getD_drop {α : Type} (l : List α) (i j : Nat) (d : α) : (l.drop i).getD j d = l.getD (i + j) d := by simp only [List.getD_eq_getElem?_getD, List.getElem?_drop]
theorem ti_nat (n : Nat) : (n : Int).toNat = n := Int.toNat_natCast n
/-- An append of one element. -/
theorem app1 {α : Type} {enc : α → List IC} {d : α} {l : List α} {f g : Nat → List IC} {K : Nat → (Nat → List IC) → Prop} (a : α) (hf : ∀ k, k < l.length → f k = enc (l.getD k d)) (hg : g 0 = enc a) (h : K (l ++ [a]).length fun k => enc ((l ++ [a]).getD k d)) :
    ∃ (n' : Nat) (f' : Nat → List IC), n' = l.length + 1 ∧ (∀ k, k < l.length → f' k = f k) ∧ (∀ k, k < 1 → f' (l.length + k) = g k) ∧ K n' f' := by
  refine ⟨_, _, by simp, fun k hk => ?_, fun k hk => ?_, h⟩
  · rw [hf k hk]
    simp [List.getD_eq_getElem?_getD, List.getElem?_append_left hk]
  · obtain rfl : k = 0 := by omega
    rw [hg]
    simp [List.getD_eq_getElem?_getD]
theorem frz_two (i j : Nat) {st st1 st' : St} (h1 : ∀ K : St → Prop, K st1 → frzK st i K) (h2 : ∀ K : St → Prop, K st' → frzK st1 j K) : Weak st st' := (frz_weak i h1).trans (frz_weak j h2)
end Go.Eng
/- Ids: what comes after, which come ahead. -/
set_option linter.unusedVariables false
set_option linter.unusedSimpArgs false
set_option maxRecDepth 100000
set_option maxHeartbeats 4000000
namespace Go.Eng
open Go Go.RowKit Go.Proofs
abbrev I2 := Int × Int
def u32P (a : I2) : Prop := (0 ≤ a.1 ∧ a.1 ≤ 4294967295) ∧ 0 ≤ a.2 ∧ a.2 ≤ 4294967295
abbrev idF (a : I2) : List IC := [vu a.1, vu a.2]
abbrev idA (a : I2) : AV := .agg (idF a)
abbrev errK (k : Int) : AV := .c (.v (.iface 58 (.int .i64 k)))
theorem none_c (a : I2) : CallV Tryd.prog 56 [idA a] [] (fun r own' => own' = [] ∧ r = vcb (a.1 == 0)) := by
  refine callV_pure Tryd.func56 rfl ttok ftok rfl rfl rfl (Nat.le_of_ble_eq_true rfl) ?_
  conv => whnf
  try rfl
/-- What comes n clocks on. -/
def aftC (a : I2) (n lim : Int) : Int := if a.1 = 0 ∨ n < 0 then 1 else if lim < a.2 ∨ lim - a.2 < n then 4 else 0
def aftV (a : I2) (n lim : Int) : AV := if aftC a n lim = 0 then .tup [idA (a.1, a.2 + n), .c (.v .nilIface)] else .tup [idA (0, 0), errK (aftC a n lim)]
def aftW (a : I2) (n lim : Int) : AV := if aftC a n lim = 0 then .tup [idA (a.1, a.2 + n), vci .i64 0] else .tup [idA (0, 0), vci .i64 (aftC a n lim)]
theorem after_c (a : I2) (ha : u32P a) (n lim : Int) (h1 : -9223372036854775808 ≤ n) (h2 : n ≤ 9223372036854775807) (h3 : 0 ≤ lim) (h4 : lim ≤ 4294967295) : CallV Tryd.prog 49 [idA a, vci .i64 n, vci .u32 lim] [] (fun r own' => own' = [] ∧ r = aftV a n lim) := by
  obtain ⟨⟨a1, a2⟩, a3, a4⟩ := ha
  refine callV_pure Tryd.func49 rfl ttok ftok rfl rfl rfl (Nat.le_of_ble_eq_true rfl) ?_
  conv => whnf
  refine call_pure (none_c a) rfl ?_
  rintro _ rfl
  by_cases z : a.1 = 0
  · rw [show (a.1 == 0) = true from beq_iff_eq.2 z]
    conv => whnf
    rw [show aftV a n lim = .tup [idA (0, 0), errK 1] from by unfold aftV; rw [show aftC a n lim = 1 from by unfold aftC; rw [if_pos (.inl z)]]; rfl]
    try rfl
  rw [show (a.1 == 0) = false from beq_eq_false_iff_ne.2 z]
  conv => whnf
  by_cases z2 : n < 0
  · rw [show decide (n < 0) = true from decide_eq_true z2]
    conv => whnf
    rw [show aftV a n lim = .tup [idA (0, 0), errK 1] from by unfold aftV; rw [show aftC a n lim = 1 from by unfold aftC; rw [if_pos (.inr z2)]]; rfl]
    try rfl
  rw [show decide (n < 0) = false from decide_eq_false z2]
  conv => whnf
  have e1 : IntKind.u64.wrap n = n := by rw [w_u64]; omega
  refine onB_intro (fun h => ?_) (fun h => ?_)
  · have z3 : lim < a.2 ∨ lim - a.2 < n := by
      simp only [pickB, isLit, e1, Bool.or_eq_true, decide_eq_true_eq] at h
      rcases h with h | h
      · exact .inl h
      · by_cases q : lim < a.2
        · exact .inl q
        · rw [w_u32, w_u64, Int.emod_eq_of_lt (by omega) (by omega), Int.emod_eq_of_lt (by omega) (by omega)] at h
          exact .inr h
    conv => whnf
    rw [show aftV a n lim = .tup [idA (0, 0), errK 4] from by unfold aftV; rw [show aftC a n lim = 4 from by unfold aftC; rw [if_neg (by omega), if_pos z3]]; rfl]
    try rfl
  · have z3 : ¬ (lim < a.2 ∨ lim - a.2 < n) := by
      simp only [pickB, isLit, e1, Bool.or_eq_false_iff, decide_eq_false_iff_not] at h
      have h2 := h.2
      rw [w_u32, w_u64, Int.emod_eq_of_lt (by omega) (by omega), Int.emod_eq_of_lt (by omega) (by omega)] at h2
      omega
    conv => whnf
    rw [show IntKind.u32.wrap (a.2 + IntKind.u32.wrap n) = a.2 + n from by simp only [w_u32]; omega]
    rw [show aftV a n lim = .tup [idA (a.1, a.2 + n), .c (.v .nilIface)] from by unfold aftV; rw [if_pos (by unfold aftC; rw [if_neg (by omega), if_neg z3])]]
    try rfl
theorem rafter_c (a : I2) (ha : u32P a) (n lim : Int) (h1 : -9223372036854775808 ≤ n) (h2 : n ≤ 9223372036854775807) (h3 : 0 ≤ lim) (h4 : lim ≤ 4294967295) : CallV Tryd.prog 53 [idA a, vci .i64 n, vci .u32 lim] [] (fun r own' => own' = [] ∧ r = aftW a n lim) := by
  obtain ⟨⟨a1, a2⟩, a3, a4⟩ := ha
  have e1 : IntKind.i64.wrap (IntKind.i64.wrap lim - IntKind.i64.wrap a.2) = lim - a.2 := by rw [w_i64 (x := lim) (by omega) (by omega), w_i64 (x := a.2) (by omega) (by omega), w_i64 (by omega) (by omega)]
  refine callV_pure Tryd.func53 rfl ttok ftok rfl rfl rfl (Nat.le_of_ble_eq_true rfl) ?_
  conv => whnf
  refine onB_intro (fun h => ?_) (fun h => ?_)
  · have z : a.1 = 0 ∨ n < 0 := by
      simp [pickB, isLit] at h
      exact h
    conv => whnf
    rw [show aftW a n lim = .tup [idA (0, 0), vci .i64 1] from by unfold aftW; rw [show aftC a n lim = 1 from by unfold aftC; rw [if_pos z]]; rfl]
    try rfl
  · have z : ¬ (a.1 = 0 ∨ n < 0) := by
      simp [pickB, isLit] at h
      omega
    conv => whnf
    refine onB_intro (fun h2 => ?_) (fun h2 => ?_)
    · have z3 : lim < a.2 ∨ lim - a.2 < n := by
        simp only [pickB, isLit, e1, Bool.or_eq_true, decide_eq_true_eq] at h2
        omega
      conv => whnf
      rw [show aftW a n lim = .tup [idA (0, 0), vci .i64 4] from by unfold aftW; rw [show aftC a n lim = 4 from by unfold aftC; rw [if_neg z, if_pos z3]]; rfl]
      try rfl
    · have z3 : ¬ (lim < a.2 ∨ lim - a.2 < n) := by
        simp only [pickB, isLit, e1, Bool.or_eq_false_iff, decide_eq_false_iff_not] at h2
        omega
      conv => whnf
      rw [show IntKind.u32.wrap (a.2 + IntKind.u32.wrap n) = a.2 + n from by simp only [w_u32]; omega]
      rw [show aftW a n lim = .tup [idA (a.1, a.2 + n), vci .i64 0] from by unfold aftW; rw [if_pos (by unfold aftC; rw [if_neg z, if_neg z3])]]
      try rfl
def beforeR (a b : I2) : Prop := a.1 < b.1 ∨ a.1 = b.1 ∧ a.2 < b.2
instance (a b : I2) : Decidable (beforeR a b) := by unfold beforeR; infer_instance
theorem before_c (a b : I2) : CallV Tryd.prog 19 [idA a, idA b] [] (fun r own' => own' = [] ∧ r = vcb (decide (beforeR a b))) := by
  refine callV_pure Tryd.func19 rfl ttok ftok rfl rfl rfl (Nat.le_of_ble_eq_true rfl) ?_
  conv => whnf
  refine congrArg vcb ?_
  rw [Bool.eq_iff_iff, decide_eq_true_iff]
  unfold beforeR
  simp [pickB, isLit]
end Go.Eng
set_option linter.unusedVariables false
set_option linter.unusedSimpArgs false
namespace Go.Eng
open Go Go.RowKit Go.Proofs
/-! The reference's decoding of UTF-8. -/
def bAt (s : ByteArray) (i : Nat) : Int := ((s[i]!).toNat : Int)
theorem bAt_le (s : ByteArray) (i : Nat) : 0 ≤ bAt s i ∧ bAt s i ≤ 255 := by
  have := (s[i]!).toNat_lt
  unfold bAt
  omega
def headR (c : Int) : Option (Nat × Int × Int) :=
  if 240 ≤ c ∧ c < 248 then some (4, c - 240, 65536) else if 224 ≤ c ∧ c < 240 then some (3, c - 224, 2048) else if 192 ≤ c ∧ c < 224 then some (2, c - 192, 128) else if 128 ≤ c then none else some (1, c, 0)
def tailR (s : ByteArray) (i : Nat) : Nat → Nat → Int → Option Int
  | _, 0, v => some v
  | k, m + 1, v => if bAt s (i + k) < 128 ∨ 191 < bAt s (i + k) then none else tailR s i (k + 1) m (64 * v + bAt s (i + k) - 128)
def badR (v least : Int) : Prop := v < least ∨ 1114111 < v ∨ 55296 ≤ v ∧ v ≤ 57343
instance (v least : Int) : Decidable (badR v least) := by unfold badR; infer_instance
def charR (s : ByteArray) (i : Nat) : Option (Int × Nat) :=
  match headR (bAt s i) with
  | none => none
  | some (n, v0, least) => if s.size < i + n then none else match tailR s i 1 (n - 1) v0 with
    | none => none
    | some v => if badR v least then none else some (v, n)
def charsR (s : ByteArray) : Nat → Nat → Option (List Int)
  | 0, _ => some []
  | f + 1, i => if i < s.size then match charR s i with
      | none => none
      | some (v, n) => (charsR s f (i + n)).map (v :: ·)
    else some []
def charsF (s : ByteArray) : Option (List Int) := charsR s s.size 0
def charsV (s : ByteArray) : AV := match charsF s with | some l => .tup [rns l, vcb true] | none => .tup [nilS, vcb false]
theorem chars_no {s : ByteArray} {i f : Nat} {l : List Int} (hf : s.size - i ≤ f) (hi : i < s.size) (he : charsF s = (charsR s f i).map (l ++ ·)) (h : charR s i = none) : charsV s = .tup [nilS, vcb false] := by
  obtain ⟨f, rfl⟩ : ∃ g, f = g + 1 := ⟨f - 1, by omega⟩
  unfold charsR at he
  rw [if_pos hi, h] at he
  unfold charsV
  rw [he]
  rfl
theorem chars_go {s : ByteArray} {i f : Nat} {l : List Int} (hf : s.size - i ≤ f) (hi : i < s.size) (he : charsF s = (charsR s f i).map (l ++ ·)) {v : Int} {n : Nat} (h : charR s i = some (v, n)) : charsF s = (charsR s (f - 1) (i + n)).map ((l ++ [v]) ++ ·) := by
  obtain ⟨f, rfl⟩ : ∃ g, f = g + 1 := ⟨f - 1, by omega⟩
  unfold charsR at he
  rw [if_pos hi, h] at he
  rw [he]
  simp only [Nat.add_sub_cancel]
  cases charsR s f (i + n) <;> simp
theorem wb (s : ByteArray) (i : Nat) : IntKind.i64.wrap ((s[i]!).toNat : Int) = bAt s i := by
  have := bAt_le s i
  unfold bAt at *
  exact w_i64 (by omega) (by omega)
/-- What a loop's head holds. -/
def chI (s : ByteArray) (n : Nat) (st : St) : Prop := ∃ (i : Nat) (l : List Int) (f : Nat), n = s.size - i ∧ i ≤ s.size ∧ l.length ≤ i ∧ s.size - i ≤ f ∧ charsF s = (charsR s f i).map (l ++ ·) ∧
  st = ⟨99, 0, [(0, vcs s), (4, .c (.row 0)), (5, vci .i64 (i : Int))], [some (.row 21 1 l.length (runeF l))]⟩
theorem w_le {x : Int} (h1 : 0 ≤ x) (h2 : x ≤ 4000000000) : IntKind.i64.wrap x = x := w_i64 (by omega) (by omega)
theorem w32_le {x : Int} (h1 : 0 ≤ x) (h2 : x ≤ 1114111) : IntKind.i32.wrap x = x := by
  unfold IntKind.wrap IntKind.bits IntKind.signed
  simp
  split <;> omega
theorem headR_1 {c : Int} (h : ¬ (240 ≤ c ∧ c < 248)) (h2 : ¬ (224 ≤ c ∧ c < 240)) (h3 : ¬ (192 ≤ c ∧ c < 224)) (h4 : ¬ 128 ≤ c) : headR c = some (1, c, 0) := by unfold headR; rw [if_neg h, if_neg h2, if_neg h3, if_neg h4]
theorem tailR_no {s : ByteArray} {i k m : Nat} {v : Int} (h : bAt s (i + k) < 128 ∨ 191 < bAt s (i + k)) : tailR s i k (m + 1) v = none := by unfold tailR; rw [if_pos h]
theorem tailR_go {s : ByteArray} {i k m : Nat} {v : Int} (h : ¬ (bAt s (i + k) < 128 ∨ 191 < bAt s (i + k))) : tailR s i k (m + 1) v = tailR s i (k + 1) m (64 * v + bAt s (i + k) - 128) := by rw [tailR, if_neg h]
theorem charR_big {s : ByteArray} {i n : Nat} {v least : Int} (hh : headR (bAt s i) = some (n, v, least)) (h : s.size < i + n) : charR s i = none := by unfold charR; simp only [hh]; rw [if_pos h]
theorem charR_tail {s : ByteArray} {i n : Nat} {v least : Int} (hh : headR (bAt s i) = some (n, v, least)) (h : ¬ s.size < i + n) (ht : tailR s i 1 (n - 1) v = none) : charR s i = none := by unfold charR; simp only [hh]; rw [if_neg h, ht]
theorem charR_bad {s : ByteArray} {i n : Nat} {v u least : Int} (hh : headR (bAt s i) = some (n, v, least)) (h : ¬ s.size < i + n) (ht : tailR s i 1 (n - 1) v = some u) (hb : badR u least) : charR s i = none := by unfold charR; simp only [hh]; rw [if_neg h, ht]; simp only; rw [if_pos hb]
theorem charR_ok {s : ByteArray} {i n : Nat} {v u least : Int} (hh : headR (bAt s i) = some (n, v, least)) (h : ¬ s.size < i + n) (ht : tailR s i 1 (n - 1) v = some u) (hb : ¬ badR u least) : charR s i = some (u, n) := by unfold charR; simp only [hh]; rw [if_neg h, ht]; simp only; rw [if_neg hb]
set_option maxRecDepth 100000 in
set_option maxHeartbeats 2000000 in
theorem chars_c (s : ByteArray) (hs : s.size ≤ 100000000) : CallV Tryd.prog 39 [vcs s] [] (fun r own' => own' = [] ∧ r = charsV s) := by
  refine callV_pure Tryd.func39 rfl ttok ftok rfl rfl rfl (Nat.le_of_ble_eq_true rfl) ?_
  conv => whnf
  refine loopV ttok ftok (chI s) ((nil_row 4 21 1 (runeF []) rfl).trans (norm_weak [0, 4, 5] [some 0] rfl rfl)) ⟨0, [], s.size, rfl, Nat.zero_le _, Nat.zero_le _, Nat.sub_le _ _, ?_, rfl⟩ ?_
  · unfold charsF; cases charsR s s.size 0 <;> rfl
  rintro n st ⟨i, l, f, rfl, hi, hll, hf, he, rfl⟩
  conv => whnf
  refine ⟨by omega, ?_⟩
  conv => whnf
  refine onB_intro (fun h => ?_) (fun h => ?_)
  · have hlt : i < s.size := by have := of_decide_eq_true h; omega
    have ek : ∀ k : Nat, k ≤ 4 → IntKind.i64.wrap ((i : Int) + (k : Int)) = ((i + k : Nat) : Int) := fun k hk => by rw [w_i64 (by omega) (by omega)]; omega
    have e1 : IntKind.i64.wrap ((i : Int) + 1) = ((i + 1 : Nat) : Int) := ek 1 (by omega)
    have e2 : IntKind.i64.wrap ((i : Int) + IntKind.i64.wrap (1 + 1)) = ((i + 2 : Nat) : Int) := ek 2 (by omega)
    have e3 : IntKind.i64.wrap ((i : Int) + IntKind.i64.wrap (IntKind.i64.wrap (1 + 1) + 1)) = ((i + 3 : Nat) : Int) := ek 3 (by omega)
    have e4 : IntKind.i64.wrap ((i : Int) + 4) = ((i + 4 : Nat) : Int) := ek 4 (by omega)
    have b0 := bAt_le s i
    have b1 := bAt_le s (i + 1)
    have b2 := bAt_le s (i + 2)
    have b3 := bAt_le s (i + 3)
    conv => whnf
    refine ⟨by omega, ?_⟩
    conv => whnf
    refine onB_intro (fun c4 => ?_) (fun c4 => ?_)
    · conv => whnf
      simp only [pickB, isLit, Bool.and_eq_true, decide_eq_true_eq, wb, ti_nat] at c4
      have hh : headR (bAt s i) = some (4, bAt s i - 240, 65536) := by unfold headR; rw [if_pos (by omega)]
      have en := e4
      refine ⟨by omega, ?_⟩
      conv => whnf
      refine onB_intro (fun h1 => ?_) (fun h1 => ?_)
      · conv => whnf
        refine (chars_no hf hlt he ?_).symm
        simp only [pickB, isLit, Bool.true_or, Bool.and_true, Bool.or_eq_true, Bool.and_eq_true, Bool.or_eq_false_iff, decide_eq_true_eq, decide_eq_false_iff_not, wb, ti_nat, e1, e2, e3, e4] at h1
        exact charR_big hh (by omega)
      have hfit : ¬ s.size < i + 4 := by have h1 := of_decide_eq_false h1; simp only [en] at h1; omega
      conv => whnf
      refine loop_rounds 5 ttok ftok ?_
      conv => whnf
      refine ⟨by rw [e1]; omega, ?_⟩
      conv => whnf
      refine onB_intro (fun d1 => ?_) (fun d1 => ?_)
      · conv => whnf
        refine (chars_no hf hlt he ?_).symm
        simp only [pickB, isLit, Bool.true_or, Bool.and_true, Bool.or_eq_true, Bool.and_eq_true, Bool.or_eq_false_iff, decide_eq_true_eq, decide_eq_false_iff_not, wb, ti_nat, e1, e2, e3, e4] at d1
        refine charR_tail hh hfit ?_
        skip
        exact tailR_no (by omega)
      have d1 : ¬ (bAt s (i + 1) < 128 ∨ 191 < bAt s (i + 1)) := by
        simp only [pickB, isLit, Bool.true_or, Bool.and_true, Bool.or_eq_true, Bool.and_eq_true, Bool.or_eq_false_iff, decide_eq_true_eq, decide_eq_false_iff_not, wb, ti_nat, e1, e2, e3, e4] at d1
        omega
      conv => whnf
      refine ⟨by rw [e2]; omega, ?_⟩
      conv => whnf
      refine onB_intro (fun d2 => ?_) (fun d2 => ?_)
      · conv => whnf
        refine (chars_no hf hlt he ?_).symm
        simp only [pickB, isLit, Bool.true_or, Bool.and_true, Bool.or_eq_true, Bool.and_eq_true, Bool.or_eq_false_iff, decide_eq_true_eq, decide_eq_false_iff_not, wb, ti_nat, e1, e2, e3, e4] at d2
        refine charR_tail hh hfit ?_
        rw [show (4 : Nat) - 1 = 2 + 1 from rfl, tailR_go d1]
        exact tailR_no (by omega)
      have d2 : ¬ (bAt s (i + 2) < 128 ∨ 191 < bAt s (i + 2)) := by
        simp only [pickB, isLit, Bool.true_or, Bool.and_true, Bool.or_eq_true, Bool.and_eq_true, Bool.or_eq_false_iff, decide_eq_true_eq, decide_eq_false_iff_not, wb, ti_nat, e1, e2, e3, e4] at d2
        omega
      conv => whnf
      refine ⟨by rw [e3]; omega, ?_⟩
      conv => whnf
      refine onB_intro (fun d3 => ?_) (fun d3 => ?_)
      · conv => whnf
        refine (chars_no hf hlt he ?_).symm
        simp only [pickB, isLit, Bool.true_or, Bool.and_true, Bool.or_eq_true, Bool.and_eq_true, Bool.or_eq_false_iff, decide_eq_true_eq, decide_eq_false_iff_not, wb, ti_nat, e1, e2, e3, e4] at d3
        refine charR_tail hh hfit ?_
        rw [show (4 : Nat) - 1 = 2 + 1 from rfl, tailR_go d1, tailR_go d2]
        exact tailR_no (by omega)
      have d3 : ¬ (bAt s (i + 3) < 128 ∨ 191 < bAt s (i + 3)) := by
        simp only [pickB, isLit, Bool.true_or, Bool.and_true, Bool.or_eq_true, Bool.and_eq_true, Bool.or_eq_false_iff, decide_eq_true_eq, decide_eq_false_iff_not, wb, ti_nat, e1, e2, e3, e4] at d3
        omega
      conv => whnf
      refine onB_intro (fun hl => ?_) (fun hl => ?_)
      · conv => whnf
        refine (chars_no hf hlt he ?_).symm
        simp only [pickB, isLit, Bool.true_or, Bool.and_true, Bool.or_eq_true, Bool.and_eq_true, decide_eq_true_eq, wb, ti_nat, e1, e2, e3, e4] at hl
        refine charR_bad hh hfit (by rw [show (4 : Nat) - 1 = 2 + 1 from rfl, tailR_go d1, tailR_go d2, tailR_go d3]; rfl) ?_
        unfold badR
        try simp (discharger := omega) only [w_le] at hl
        omega
      have hb : ¬ badR (64 * (64 * (64 * (bAt s i - 240) + bAt s (i + 1) - 128) + bAt s (i + 2) - 128) + bAt s (i + 3) - 128) 65536 := by
        simp only [pickB, isLit, Bool.true_or, Bool.and_true, Bool.or_eq_false_iff, Bool.and_eq_false_imp, decide_eq_true_eq, decide_eq_false_iff_not, wb, ti_nat, e1, e2, e3, e4] at hl
        try simp (discharger := omega) only [w_le] at hl
        unfold badR
        omega
      conv => whnf
      refine ⟨_, fun _ _ => rfl, ?_⟩
      conv => whnf
      refine ⟨⟨by omega, by show (l.length + 1) * 4 ≤ _; omega⟩, ?_⟩
      conv => whnf
      refine app1 (enc := fun x : Int => [vr x]) (d := 0) (l := l) (64 * (64 * (64 * (bAt s i - 240) + bAt s (i + 1) - 128) + bAt s (i + 2) - 128) + bAt s (i + 3) - 128) (fun _ _ => rfl) ?_ ?_
      · unfold badR at hb
        show [IC.v (Value.int .i32 _)] = [vr _]
        simp only [wb, ti_nat, e1, e2, e3, e4]
        simp (discharger := omega) only [w_le, w32_le]
      conv => whnf
      refine ⟨s.size - (i + 4), _, by omega, norm_weak [0, 4, 5] [some 2] rfl rfl, i + 4, l ++ [(64 * (64 * (64 * (bAt s i - 240) + bAt s (i + 1) - 128) + bAt s (i + 2) - 128) + bAt s (i + 3) - 128)], f - 1, rfl, by omega, by simp only [List.length_append, List.length_cons, List.length_nil]; omega, by omega, chars_go hf hlt he (charR_ok hh hfit (by rw [show (4 : Nat) - 1 = 2 + 1 from rfl, tailR_go d1, tailR_go d2, tailR_go d3]; rfl) hb), ?_⟩
      rw [← en]
      rfl
    · conv => whnf
      replace c4 : ¬ (240 ≤ bAt s i ∧ bAt s i < 248) := by
        simp only [pickB, isLit, Bool.and_eq_false_imp, decide_eq_true_eq, decide_eq_false_iff_not, wb, ti_nat] at c4
        omega
      refine onB_intro (fun c3 => ?_) (fun c3 => ?_)
      · conv => whnf
        simp only [pickB, isLit, Bool.and_eq_true, decide_eq_true_eq, wb, ti_nat] at c3
        have hh : headR (bAt s i) = some (3, bAt s i - 224, 2048) := by unfold headR; rw [if_neg c4, if_pos (by omega)]
        have en : IntKind.i64.wrap ((i : Int) + 3) = ((i + 3 : Nat) : Int) := ek 3 (by omega)
        refine ⟨by omega, ?_⟩
        conv => whnf
        refine onB_intro (fun h1 => ?_) (fun h1 => ?_)
        · conv => whnf
          refine (chars_no hf hlt he ?_).symm
          simp only [pickB, isLit, Bool.true_or, Bool.and_true, Bool.or_eq_true, Bool.and_eq_true, Bool.or_eq_false_iff, decide_eq_true_eq, decide_eq_false_iff_not, wb, ti_nat, e1, e2, e3, e4] at h1
          exact charR_big hh (by omega)
        have hfit : ¬ s.size < i + 3 := by have h1 := of_decide_eq_false h1; simp only [en] at h1; omega
        conv => whnf
        refine loop_rounds 5 ttok ftok ?_
        conv => whnf
        refine ⟨by rw [e1]; omega, ?_⟩
        conv => whnf
        refine onB_intro (fun d1 => ?_) (fun d1 => ?_)
        · conv => whnf
          refine (chars_no hf hlt he ?_).symm
          simp only [pickB, isLit, Bool.true_or, Bool.and_true, Bool.or_eq_true, Bool.and_eq_true, Bool.or_eq_false_iff, decide_eq_true_eq, decide_eq_false_iff_not, wb, ti_nat, e1, e2, e3, e4] at d1
          refine charR_tail hh hfit ?_
          skip
          exact tailR_no (by omega)
        have d1 : ¬ (bAt s (i + 1) < 128 ∨ 191 < bAt s (i + 1)) := by
          simp only [pickB, isLit, Bool.true_or, Bool.and_true, Bool.or_eq_true, Bool.and_eq_true, Bool.or_eq_false_iff, decide_eq_true_eq, decide_eq_false_iff_not, wb, ti_nat, e1, e2, e3, e4] at d1
          omega
        conv => whnf
        refine ⟨by rw [e2]; omega, ?_⟩
        conv => whnf
        refine onB_intro (fun d2 => ?_) (fun d2 => ?_)
        · conv => whnf
          refine (chars_no hf hlt he ?_).symm
          simp only [pickB, isLit, Bool.true_or, Bool.and_true, Bool.or_eq_true, Bool.and_eq_true, Bool.or_eq_false_iff, decide_eq_true_eq, decide_eq_false_iff_not, wb, ti_nat, e1, e2, e3, e4] at d2
          refine charR_tail hh hfit ?_
          rw [show (3 : Nat) - 1 = 1 + 1 from rfl, tailR_go d1]
          exact tailR_no (by omega)
        have d2 : ¬ (bAt s (i + 2) < 128 ∨ 191 < bAt s (i + 2)) := by
          simp only [pickB, isLit, Bool.true_or, Bool.and_true, Bool.or_eq_true, Bool.and_eq_true, Bool.or_eq_false_iff, decide_eq_true_eq, decide_eq_false_iff_not, wb, ti_nat, e1, e2, e3, e4] at d2
          omega
        conv => whnf
        refine onB_intro (fun hl => ?_) (fun hl => ?_)
        · conv => whnf
          refine (chars_no hf hlt he ?_).symm
          simp only [pickB, isLit, Bool.true_or, Bool.and_true, Bool.or_eq_true, Bool.and_eq_true, decide_eq_true_eq, wb, ti_nat, e1, e2, e3, e4] at hl
          refine charR_bad hh hfit (by rw [show (3 : Nat) - 1 = 1 + 1 from rfl, tailR_go d1, tailR_go d2]; rfl) ?_
          unfold badR
          try simp (discharger := omega) only [w_le] at hl
          omega
        have hb : ¬ badR (64 * (64 * (bAt s i - 224) + bAt s (i + 1) - 128) + bAt s (i + 2) - 128) 2048 := by
          simp only [pickB, isLit, Bool.true_or, Bool.and_true, Bool.or_eq_false_iff, Bool.and_eq_false_imp, decide_eq_true_eq, decide_eq_false_iff_not, wb, ti_nat, e1, e2, e3, e4] at hl
          try simp (discharger := omega) only [w_le] at hl
          unfold badR
          omega
        conv => whnf
        refine ⟨_, fun _ _ => rfl, ?_⟩
        conv => whnf
        refine ⟨⟨by omega, by show (l.length + 1) * 4 ≤ _; omega⟩, ?_⟩
        conv => whnf
        refine app1 (enc := fun x : Int => [vr x]) (d := 0) (l := l) (64 * (64 * (bAt s i - 224) + bAt s (i + 1) - 128) + bAt s (i + 2) - 128) (fun _ _ => rfl) ?_ ?_
        · unfold badR at hb
          show [IC.v (Value.int .i32 _)] = [vr _]
          simp only [wb, ti_nat, e1, e2, e3, e4]
          simp (discharger := omega) only [w_le, w32_le]
        conv => whnf
        refine ⟨s.size - (i + 3), _, by omega, norm_weak [0, 4, 5] [some 2] rfl rfl, i + 3, l ++ [(64 * (64 * (bAt s i - 224) + bAt s (i + 1) - 128) + bAt s (i + 2) - 128)], f - 1, rfl, by omega, by simp only [List.length_append, List.length_cons, List.length_nil]; omega, by omega, chars_go hf hlt he (charR_ok hh hfit (by rw [show (3 : Nat) - 1 = 1 + 1 from rfl, tailR_go d1, tailR_go d2]; rfl) hb), ?_⟩
        rw [← en]
        rfl
      · conv => whnf
        replace c3 : ¬ (224 ≤ bAt s i ∧ bAt s i < 240) := by
          simp only [pickB, isLit, Bool.and_eq_false_imp, decide_eq_true_eq, decide_eq_false_iff_not, wb, ti_nat] at c3
          omega
        refine onB_intro (fun c2 => ?_) (fun c2 => ?_)
        · conv => whnf
          simp only [pickB, isLit, Bool.and_eq_true, decide_eq_true_eq, wb, ti_nat] at c2
          have hh : headR (bAt s i) = some (2, bAt s i - 192, 128) := by unfold headR; rw [if_neg c4, if_neg c3, if_pos (by omega)]
          have en : IntKind.i64.wrap ((i : Int) + 2) = ((i + 2 : Nat) : Int) := ek 2 (by omega)
          refine ⟨by omega, ?_⟩
          conv => whnf
          refine onB_intro (fun h1 => ?_) (fun h1 => ?_)
          · conv => whnf
            refine (chars_no hf hlt he ?_).symm
            simp only [pickB, isLit, Bool.true_or, Bool.and_true, Bool.or_eq_true, Bool.and_eq_true, Bool.or_eq_false_iff, decide_eq_true_eq, decide_eq_false_iff_not, wb, ti_nat, e1, e2, e3, e4] at h1
            exact charR_big hh (by omega)
          have hfit : ¬ s.size < i + 2 := by have h1 := of_decide_eq_false h1; simp only [en] at h1; omega
          conv => whnf
          refine loop_rounds 5 ttok ftok ?_
          conv => whnf
          refine ⟨by rw [e1]; omega, ?_⟩
          conv => whnf
          refine onB_intro (fun d1 => ?_) (fun d1 => ?_)
          · conv => whnf
            refine (chars_no hf hlt he ?_).symm
            simp only [pickB, isLit, Bool.true_or, Bool.and_true, Bool.or_eq_true, Bool.and_eq_true, Bool.or_eq_false_iff, decide_eq_true_eq, decide_eq_false_iff_not, wb, ti_nat, e1, e2, e3, e4] at d1
            refine charR_tail hh hfit ?_
            skip
            exact tailR_no (by omega)
          have d1 : ¬ (bAt s (i + 1) < 128 ∨ 191 < bAt s (i + 1)) := by
            simp only [pickB, isLit, Bool.true_or, Bool.and_true, Bool.or_eq_true, Bool.and_eq_true, Bool.or_eq_false_iff, decide_eq_true_eq, decide_eq_false_iff_not, wb, ti_nat, e1, e2, e3, e4] at d1
            omega
          conv => whnf
          refine onB_intro (fun hl => ?_) (fun hl => ?_)
          · conv => whnf
            refine (chars_no hf hlt he ?_).symm
            simp only [pickB, isLit, Bool.true_or, Bool.and_true, Bool.or_eq_true, Bool.and_eq_true, decide_eq_true_eq, wb, ti_nat, e1, e2, e3, e4] at hl
            refine charR_bad hh hfit (by rw [show (2 : Nat) - 1 = 0 + 1 from rfl, tailR_go d1]; rfl) ?_
            unfold badR
            try simp (discharger := omega) only [w_le] at hl
            omega
          have hb : ¬ badR (64 * (bAt s i - 192) + bAt s (i + 1) - 128) 128 := by
            simp only [pickB, isLit, Bool.true_or, Bool.and_true, Bool.or_eq_false_iff, Bool.and_eq_false_imp, decide_eq_true_eq, decide_eq_false_iff_not, wb, ti_nat, e1, e2, e3, e4] at hl
            try simp (discharger := omega) only [w_le] at hl
            unfold badR
            omega
          conv => whnf
          refine ⟨_, fun _ _ => rfl, ?_⟩
          conv => whnf
          refine ⟨⟨by omega, by show (l.length + 1) * 4 ≤ _; omega⟩, ?_⟩
          conv => whnf
          refine app1 (enc := fun x : Int => [vr x]) (d := 0) (l := l) (64 * (bAt s i - 192) + bAt s (i + 1) - 128) (fun _ _ => rfl) ?_ ?_
          · unfold badR at hb
            show [IC.v (Value.int .i32 _)] = [vr _]
            simp only [wb, ti_nat, e1, e2, e3, e4]
            simp (discharger := omega) only [w_le, w32_le]
          conv => whnf
          refine ⟨s.size - (i + 2), _, by omega, norm_weak [0, 4, 5] [some 2] rfl rfl, i + 2, l ++ [(64 * (bAt s i - 192) + bAt s (i + 1) - 128)], f - 1, rfl, by omega, by simp only [List.length_append, List.length_cons, List.length_nil]; omega, by omega, chars_go hf hlt he (charR_ok hh hfit (by rw [show (2 : Nat) - 1 = 0 + 1 from rfl, tailR_go d1]; rfl) hb), ?_⟩
          rw [← en]
          rfl
        · conv => whnf
          replace c2 : ¬ (192 ≤ bAt s i ∧ bAt s i < 224) := by
            simp only [pickB, isLit, Bool.and_eq_false_imp, decide_eq_true_eq, decide_eq_false_iff_not, wb, ti_nat] at c2
            omega
          refine onB_intro (fun c1 => ?_) (fun c1 => ?_)
          · conv => whnf
            refine (chars_no hf hlt he ?_).symm
            simp only [decide_eq_true_eq, wb, ti_nat] at c1
            unfold charR headR
            rw [if_neg c4, if_neg c3, if_neg c2, if_pos (by omega)]
          · conv => whnf
            simp only [decide_eq_false_iff_not, wb, ti_nat] at c1
            have hh : headR (bAt s i) = some (1, bAt s i, 0) := headR_1 c4 c3 c2 (by omega)
            have en : IntKind.i64.wrap ((i : Int) + 1) = ((i + 1 : Nat) : Int) := e1
            refine ⟨by omega, ?_⟩
            conv => whnf
            refine onB_intro (fun h1 => ?_) (fun h1 => ?_)
            · conv => whnf
              refine (chars_no hf hlt he ?_).symm
              simp only [pickB, isLit, Bool.true_or, Bool.and_true, Bool.or_eq_true, Bool.and_eq_true, Bool.or_eq_false_iff, decide_eq_true_eq, decide_eq_false_iff_not, wb, ti_nat, e1, e2, e3, e4] at h1
              exact charR_big hh (by omega)
            have hfit : ¬ s.size < i + 1 := by have h1 := of_decide_eq_false h1; simp only [en] at h1; omega
            conv => whnf
            refine loop_rounds 5 ttok ftok ?_
            conv => whnf
            refine onB_intro (fun hl => ?_) (fun hl => ?_)
            · conv => whnf
              refine (chars_no hf hlt he ?_).symm
              simp only [pickB, isLit, Bool.true_or, Bool.and_true, Bool.or_eq_true, Bool.and_eq_true, decide_eq_true_eq, wb, ti_nat, e1, e2, e3, e4] at hl
              refine charR_bad hh hfit rfl ?_
              unfold badR
              try simp (discharger := omega) only [w_le] at hl
              omega
            have hb : ¬ badR (bAt s i) 0 := by
              simp only [pickB, isLit, Bool.true_or, Bool.and_true, Bool.or_eq_false_iff, Bool.and_eq_false_imp, decide_eq_true_eq, decide_eq_false_iff_not, wb, ti_nat, e1, e2, e3, e4] at hl
              try simp (discharger := omega) only [w_le] at hl
              unfold badR
              omega
            conv => whnf
            refine ⟨_, fun _ _ => rfl, ?_⟩
            conv => whnf
            refine ⟨⟨by omega, by show (l.length + 1) * 4 ≤ _; omega⟩, ?_⟩
            conv => whnf
            refine app1 (enc := fun x : Int => [vr x]) (d := 0) (l := l) (bAt s i) (fun _ _ => rfl) ?_ ?_
            · unfold badR at hb
              show [IC.v (Value.int .i32 _)] = [vr _]
              simp only [wb, ti_nat, e1, e2, e3, e4]
              simp (discharger := omega) only [w_le, w32_le]
            conv => whnf
            refine ⟨s.size - (i + 1), _, by omega, norm_weak [0, 4, 5] [some 2] rfl rfl, i + 1, l ++ [(bAt s i)], f - 1, rfl, by omega, by simp only [List.length_append, List.length_cons, List.length_nil]; omega, by omega, chars_go hf hlt he (charR_ok hh hfit rfl hb), ?_⟩
            rw [← en]
            rfl
  · conv => whnf
    have h := of_decide_eq_false h
    obtain rfl : i = s.size := by omega
    refine ⟨fun _ _ => rfl, ?_⟩
    conv => whnf
    have hc : charsF s = some l := by
      rw [he]
      cases f <;> simp [charsR]
    unfold charsV
    rw [hc]
end Go.Eng
set_option linter.unusedVariables false
set_option linter.unusedSimpArgs false
namespace Go.Eng
open Go Go.RowKit
/-! The reference's decoding beside the model's. -/
theorem get_bAt (s : ByteArray) (i : Nat) (h : i < s.size) : (s.get! i).toNat = (bAt s i).toNat := by
  unfold bAt
  rw [Int.toNat_natCast]
  congr 1
  show s.get! i = _
  simp [ByteArray.get!, getElem!_pos, h]
  rfl
theorem tailR_inv {s : ByteArray} {i k m : Nat} {v u : Int} (h : tailR s i k (m + 1) v = some u) : 128 ≤ bAt s (i + k) ∧ bAt s (i + k) ≤ 191 ∧ tailR s i (k + 1) m (64 * v + bAt s (i + k) - 128) = some u := by
  unfold tailR at h
  split at h
  · cases h
  · exact ⟨by omega, by omega, h⟩
theorem tailR_0 {s : ByteArray} {i k : Nat} {v u : Int} (h : tailR s i k 0 v = some u) : v = u := by unfold tailR at h; cases h; rfl
theorem valid_of {v : Int} (h0 : 0 ≤ v) (h1 : v ≤ 1114111) (h2 : ¬ (55296 ≤ v ∧ v ≤ 57343)) : Utf8.valid v = true := by
  unfold Utf8.valid
  simp only [Bool.or_eq_true, Bool.and_eq_true, decide_eq_true_eq]
  omega
set_option maxHeartbeats 1000000 in
theorem charR_dec {s : ByteArray} {i n : Nat} {v : Int} (hi : i < s.size) (h : charR s i = some (v, n)) : Utf8.decode s i = (v.toNat, n) ∧ i + n ≤ s.size ∧ 1 ≤ n ∧ 0 ≤ v ∧ Utf8.valid v = true := by
  have l0 := bAt_le s i
  have l1 := bAt_le s (i + 1)
  have l2 := bAt_le s (i + 2)
  have l3 := bAt_le s (i + 3)
  unfold charR at h
  split at h
  · cases h
  · rename_i n0 v0 least hh
    split at h
    · cases h
    · rename_i hfit
      split at h
      · cases h
      · rename_i v1 ht
        split at h
        · cases h
        · rename_i hb
          cases h
          unfold badR at hb
          unfold headR at hh
          have g0 := get_bAt s i (by omega)
          split at hh
          · cases hh
            obtain ⟨a1, b1, ht⟩ := tailR_inv ht
            obtain ⟨a2, b2, ht⟩ := tailR_inv ht
            obtain ⟨a3, b3, ht⟩ := tailR_inv ht
            have ht := tailR_0 ht
            have g1 := get_bAt s (i + 1) (by omega)
            have g2 := get_bAt s (i + 2) (by omega)
            have g3 := get_bAt s (i + 3) (by omega)
            refine ⟨?_, by omega, by omega, by omega, valid_of (by omega) (by omega) (by omega)⟩
            simp only [Nat.add_assoc, Nat.reduceAdd] at a1 a2 a3 b1 b2 b3 ht g1 g2 g3
            have hval := valid_of (v := v) (by omega) (by omega) (by omega)
            unfold Utf8.decode
            simp only [Nat.add_zero, g0, g1, g2, g3]
            have c1 : i + 1 < s.size := by omega
            have c2 : i + 2 < s.size := by omega
            have c3 : i + 3 < s.size := by omega
            rw [if_neg (by omega), if_neg (by simp; omega), if_neg (by simp; omega), if_pos (by simp [c1, c2, c3]; omega)]
            have hv : (bAt s i).toNat % 8 * 262144 + (bAt s (i + 1)).toNat % 64 * 4096 + (bAt s (i + 2)).toNat % 64 * 64 + (bAt s (i + 3)).toNat % 64 = v.toNat := by omega
            rw [hv, if_pos]
            simp only [Bool.and_eq_true, decide_eq_true_eq]
            exact ⟨by omega, by rw [Int.toNat_of_nonneg (by omega)]; exact hval⟩
          · split at hh
            · cases hh
              obtain ⟨a1, b1, ht⟩ := tailR_inv ht
              obtain ⟨a2, b2, ht⟩ := tailR_inv ht
              have ht := tailR_0 ht
              have g1 := get_bAt s (i + 1) (by omega)
              have g2 := get_bAt s (i + 2) (by omega)
              refine ⟨?_, by omega, by omega, by omega, valid_of (by omega) (by omega) (by omega)⟩
              simp only [Nat.add_assoc, Nat.reduceAdd] at a1 a2 b1 b2 ht g1 g2
              have hval := valid_of (v := v) (by omega) (by omega) (by omega)
              unfold Utf8.decode
              simp only [Nat.add_zero, g0, g1, g2]
              have c1 : i + 1 < s.size := by omega
              have c2 : i + 2 < s.size := by omega
              rw [if_neg (by omega), if_neg (by simp; omega), if_pos (by simp [c1, c2]; omega)]
              have hv : (bAt s i).toNat % 16 * 4096 + (bAt s (i + 1)).toNat % 64 * 64 + (bAt s (i + 2)).toNat % 64 = v.toNat := by omega
              rw [hv, if_pos]
              simp only [Bool.and_eq_true, decide_eq_true_eq]
              exact ⟨by omega, by rw [Int.toNat_of_nonneg (by omega)]; exact hval⟩
            · split at hh
              · cases hh
                obtain ⟨a1, b1, ht⟩ := tailR_inv ht
                have ht := tailR_0 ht
                have g1 := get_bAt s (i + 1) (by omega)
                refine ⟨?_, by omega, by omega, by omega, valid_of (by omega) (by omega) (by omega)⟩
                unfold Utf8.decode
                simp only [Nat.add_zero, g0, g1]
                have c1 : i + 1 < s.size := by omega
                rw [if_neg (by omega), if_pos (by simp [c1]; omega)]
                have hv : (bAt s i).toNat % 32 * 64 + (bAt s (i + 1)).toNat % 64 = v.toNat := by omega
                rw [hv, if_pos (by omega)]
              · split at hh
                · cases hh
                · cases hh
                  have ht := tailR_0 ht
                  refine ⟨?_, by omega, by omega, by omega, valid_of (by omega) (by omega) (by omega)⟩
                  unfold Utf8.decode
                  simp only [Nat.add_zero, g0]
                  rw [if_pos (by omega), ht]
theorem runesFrom_eq (s : ByteArray) : ∀ (f i b : Nat) (l : List Int) (acc : List Int), s.size - i ≤ f → s.size - i ≤ b → charsR s f i = some l → Conv.runesFrom s b i ((acc.map (Value.int .i32)).toArray) = ((acc ++ l).map (Value.int .i32)).toArray
  | 0, i, b, l, acc, hf, hb, h => by
    cases h
    cases b with
    | zero => simp [Conv.runesFrom]
    | succ b => unfold Conv.runesFrom; rw [if_neg (by omega)]; simp
  | f + 1, i, b, l, acc, hf, hb, h => by
    unfold charsR at h
    split at h
    · rename_i hi
      split at h
      · cases h
      · rename_i v n hc
        cases hr : charsR s f (i + n) with
        | none => rw [hr] at h; cases h
        | some l' =>
          rw [hr] at h
          cases h
          obtain ⟨h1, h2, h3, h4, h5⟩ := charR_dec hi hc
          obtain ⟨b, rfl⟩ : ∃ b', b = b' + 1 := ⟨b - 1, by omega⟩
          unfold Conv.runesFrom
          rw [if_pos hi, h1]
          simp only
          have ih := runesFrom_eq s f (i + n) b l' (acc ++ [v]) (by omega) (by omega) hr
          rw [List.append_assoc] at ih
          rw [show acc ++ ([v] ++ l') = acc ++ v :: l' by simp] at ih
          rw [← ih]
          congr 1
          rw [List.map_append, List.push_toArray]
          simp [Int.toNat_of_nonneg h4]
    · rename_i hi
      cases h
      cases b with
      | zero => simp [Conv.runesFrom]
      | succ b => unfold Conv.runesFrom; rw [if_neg hi]; simp
theorem runesL_chars {s : ByteArray} {l : List Int} (h : charsF s = some l) : runesL s = l := by
  have := runesFrom_eq s s.size 0 s.size l [] (by omega) (by omega) h
  unfold runesL
  simp only [List.map_nil, List.nil_append] at this
  rw [this]
  simp only [List.map_map]
  exact List.map_id' l
theorem charsR_len (s : ByteArray) : ∀ (f i : Nat) (l : List Int), i ≤ s.size → charsR s f i = some l → l.length ≤ s.size - i
  | 0, i, l, hi, h => by cases h; simp
  | f + 1, i, l, hi, h => by
    unfold charsR at h
    split at h
    · rename_i hi
      split at h
      · cases h
      · rename_i v n hc
        cases hr : charsR s f (i + n) with
        | none => rw [hr] at h; cases h
        | some l' =>
          rw [hr] at h
          cases h
          obtain ⟨h1, h2, h3, h4⟩ := charR_dec hi hc
          have := charsR_len s f (i + n) l' (by omega) hr
          simp
          omega
    · cases h; simp
theorem charsF_len {s : ByteArray} {l : List Int} (h : charsF s = some l) : l.length ≤ s.size := by
  have := charsR_len s s.size 0 l (by omega) h
  omega
end Go.Eng
/- UTF-8 back and forth: the reference's decoding beside the model's encoding. -/
set_option linter.unusedVariables false
set_option linter.unusedSimpArgs false
namespace Go.Eng
open Go Go.RowKit
abbrev encL (v : Int) : List UInt8 := (Utf8.encode v).data.toList
theorem ba_len' (s : ByteArray) : s.data.toList.length = s.size := by rw [Array.length_toList]; rfl
theorem bAt_get {s : ByteArray} {i : Nat} (h : i < s.data.toList.length) : (s.data.toList[i]).toNat = (bAt s i).toNat := by
  have h' : i < s.size := by rw [← ba_len']; exact h
  rw [← get_bAt s i h']
  simp [ByteArray.get!, h']
theorem drop_bAt {s : ByteArray} {i : Nat} (h : i < s.size) : s.data.toList.drop i = UInt8.ofNat (bAt s i).toNat :: s.data.toList.drop (i + 1) := by
  have h' : i < s.data.toList.length := by rw [ba_len']; exact h
  rw [List.drop_eq_getElem_cons h', ← bAt_get h', UInt8.ofNat_toNat]
theorem drop_cons {s : ByteArray} {i : Nat} {b : UInt8} {r : List UInt8} (h : s.data.toList.drop i = b :: r) : i < s.size ∧ bAt s i = (b.toNat : Int) ∧ s.data.toList.drop (i + 1) = r := by
  have hi : i < s.size := by
    have : i < s.data.toList.length := by
      false_or_by_contra
      rw [List.drop_eq_nil_of_le (by omega)] at h
      cases h
    rw [ba_len'] at this; exact this
  rw [drop_bAt hi] at h
  injection h with h1 h2
  refine ⟨hi, ?_, h2⟩
  have l := bAt_le s i
  rw [← h1]
  simp
  omega
theorem charR_enc {s : ByteArray} {i n : Nat} {v : Int} (hi : i < s.size) (h : charR s i = some (v, n)) : s.data.toList.drop i = encL v ++ s.data.toList.drop (i + n) := by
  have l0 := bAt_le s i
  have l1 := bAt_le s (i + 1)
  have l2 := bAt_le s (i + 2)
  have l3 := bAt_le s (i + 3)
  obtain ⟨_, hsz, hn1, hv0, hval⟩ := charR_dec hi h
  unfold charR at h
  split at h
  · cases h
  · rename_i n0 v0 least hh
    split at h
    · cases h
    · rename_i hfit
      split at h
      · cases h
      · rename_i v1 ht
        split at h
        · cases h
        · rename_i hb
          cases h
          unfold badR at hb
          unfold headR at hh
          unfold encL Utf8.encode
          rw [if_pos hval]
          split at hh
          · cases hh
            obtain ⟨a1, b1, ht⟩ := tailR_inv ht
            obtain ⟨a2, b2, ht⟩ := tailR_inv ht
            obtain ⟨a3, b3, ht⟩ := tailR_inv ht
            have ht := tailR_0 ht
            simp only [Nat.add_assoc, Nat.reduceAdd] at a1 a2 a3 b1 b2 b3 ht
            simp only
            rw [if_neg (by omega), if_neg (by omega), if_neg (by omega), drop_bAt hi, drop_bAt (i := i + 1) (by omega), drop_bAt (i := i + 1 + 1) (by omega), drop_bAt (i := i + 1 + 1 + 1) (by omega)]
            simp only [Nat.add_assoc, Nat.reduceAdd]
            rw [show (bAt s i).toNat = 0xF0 + v.toNat / 262144 from by omega, show (bAt s (i + 1)).toNat = 0x80 + v.toNat / 4096 % 64 from by omega, show (bAt s (i + 2)).toNat = 0x80 + v.toNat / 64 % 64 from by omega, show (bAt s (i + 3)).toNat = 0x80 + v.toNat % 64 from by omega]
            rfl
          · split at hh
            · cases hh
              obtain ⟨a1, b1, ht⟩ := tailR_inv ht
              obtain ⟨a2, b2, ht⟩ := tailR_inv ht
              have ht := tailR_0 ht
              simp only [Nat.add_assoc, Nat.reduceAdd] at a1 a2 b1 b2 ht
              simp only
              rw [if_neg (by omega), if_neg (by omega), if_pos (by omega), drop_bAt hi, drop_bAt (i := i + 1) (by omega), drop_bAt (i := i + 1 + 1) (by omega)]
              simp only [Nat.add_assoc, Nat.reduceAdd]
              rw [show (bAt s i).toNat = 0xE0 + v.toNat / 4096 from by omega, show (bAt s (i + 1)).toNat = 0x80 + v.toNat / 64 % 64 from by omega, show (bAt s (i + 2)).toNat = 0x80 + v.toNat % 64 from by omega]
              rfl
            · split at hh
              · cases hh
                obtain ⟨a1, b1, ht⟩ := tailR_inv ht
                have ht := tailR_0 ht
                simp only
                rw [if_neg (by omega), if_pos (by omega), drop_bAt hi, drop_bAt (i := i + 1) (by omega)]
                simp only [Nat.add_assoc, Nat.reduceAdd]
                rw [show (bAt s i).toNat = 0xC0 + v.toNat / 64 from by omega, show (bAt s (i + 1)).toNat = 0x80 + v.toNat % 64 from by omega]
                rfl
              · split at hh
                · cases hh
                · cases hh
                  have ht := tailR_0 ht
                  simp only
                  rw [if_pos (by omega), drop_bAt hi, ht]
                  rfl
theorem nb {n : Nat} (h : n < 256) : (UInt8.ofNat n).toNat = n := by simp; omega
theorem valid_inv {v : Int} (h : Utf8.valid v = true) : 0 ≤ v ∧ v ≤ 1114111 ∧ ¬ (55296 ≤ v ∧ v ≤ 57343) := by
  unfold Utf8.valid at h
  simp only [Bool.or_eq_true, Bool.and_eq_true, decide_eq_true_eq] at h
  omega
theorem enc_charR {s : ByteArray} {i : Nat} {v : Int} {r : List UInt8} (hv : Utf8.valid v = true) (h : s.data.toList.drop i = encL v ++ r) : i < s.size ∧ charR s i = some (v, (encL v).length) ∧ s.data.toList.drop (i + (encL v).length) = r := by
  obtain ⟨h0, h1, h2⟩ := valid_inv hv
  unfold encL Utf8.encode at *
  rw [if_pos hv] at *
  simp only at *
  by_cases c1 : v.toNat < 128
  · rw [if_pos c1] at *
    obtain ⟨g0, e0, d0⟩ := drop_cons h
    rw [nb (by omega)] at e0
    refine ⟨g0, ?_, d0⟩
    refine charR_ok (n := 1) (v := v) (least := 0) ?_ (by omega) rfl (by unfold badR; omega)
    rw [headR_1 (by omega) (by omega) (by omega) (by omega), e0, Int.toNat_of_nonneg h0]
  rw [if_neg c1] at *
  by_cases c2 : v.toNat < 2048
  · rw [if_pos c2] at *
    obtain ⟨g0, e0, h⟩ := drop_cons h
    obtain ⟨g1, e1, d0⟩ := drop_cons h
    rw [nb (by omega)] at e0 e1
    refine ⟨g0, ?_, d0⟩
    refine charR_ok (n := 2) (v := bAt s i - 192) (least := 128) ?_ (by omega) ?_ (by unfold badR; omega)
    · unfold headR; rw [if_neg (by omega), if_neg (by omega), if_pos (by omega)]
    · rw [tailR_go (by omega)]; unfold tailR; congr 1; omega
  rw [if_neg c2] at *
  by_cases c3 : v.toNat < 65536
  · rw [if_pos c3] at *
    obtain ⟨g0, e0, h⟩ := drop_cons h
    obtain ⟨g1, e1, h⟩ := drop_cons h
    obtain ⟨g2, e2, d0⟩ := drop_cons h
    rw [nb (by omega)] at e0 e1 e2
    refine ⟨g0, ?_, d0⟩
    refine charR_ok (n := 3) (v := bAt s i - 224) (least := 2048) ?_ (by omega) ?_ (by unfold badR; omega)
    · unfold headR; rw [if_neg (by omega), if_pos (by omega)]
    · simp only [Nat.add_assoc, Nat.reduceAdd] at e1 e2
      rw [tailR_go (by omega), tailR_go (by simp only [Nat.reduceAdd]; omega)]; unfold tailR; simp only [Nat.reduceAdd]; congr 1; omega
  rw [if_neg c3] at *
  obtain ⟨g0, e0, h⟩ := drop_cons h
  obtain ⟨g1, e1, h⟩ := drop_cons h
  obtain ⟨g2, e2, h⟩ := drop_cons h
  obtain ⟨g3, e3, d0⟩ := drop_cons h
  rw [nb (by omega)] at e0 e1 e2 e3
  refine ⟨g0, ?_, d0⟩
  refine charR_ok (n := 4) (v := bAt s i - 240) (least := 65536) ?_ (by omega) ?_ (by unfold badR; omega)
  · unfold headR; rw [if_pos (by omega)]
  · simp only [Nat.add_assoc, Nat.reduceAdd] at e1 e2 e3
    rw [tailR_go (by omega), tailR_go (by simp only [Nat.reduceAdd]; omega), tailR_go (by simp only [Nat.reduceAdd]; omega)]; unfold tailR; simp only [Nat.reduceAdd]; congr 1; omega
end Go.Eng
/- A text and its runes: there and back. -/
set_option linter.unusedVariables false
set_option linter.unusedSimpArgs false
namespace Go.Eng
open Go Go.RowKit
theorem rb_fold (l : List Int) : ∀ s : ByteArray, (l.foldl (fun r n => r ++ Utf8.encode n) s).data.toList = s.data.toList ++ l.flatMap encL := by
  induction l with
  | nil => intro s; simp
  | cons a l ih => intro s; rw [List.foldl_cons, ih]; simp [List.flatMap_cons]
theorem rb_data (l : List Int) : (runesBytes l).data.toList = l.flatMap encL := by
  unfold runesBytes
  rw [rb_fold]
  rfl
theorem ba_ext {a b : ByteArray} (h : a.data.toList = b.data.toList) : a = b := by
  rcases a with ⟨u⟩
  rcases b with ⟨v⟩
  have e : u = v := Array.toList_inj.1 h
  rw [e]
theorem rb_append (x y : List Int) : runesBytes (x ++ y) = runesBytes x ++ runesBytes y := by
  apply ba_ext
  rw [rb_data, ByteArray.data_append, Array.toList_append, rb_data, rb_data, List.flatMap_append]
theorem charsR_enc (s : ByteArray) : ∀ (f i : Nat) (l : List Int), s.size - i ≤ f → charsR s f i = some l → s.data.toList.drop i = l.flatMap encL ∧ ∀ v ∈ l, Utf8.valid v = true
  | 0, i, l, hf, h => by
    cases h
    rw [List.drop_eq_nil_of_le (by rw [ba_len']; omega)]
    simp
  | f + 1, i, l, hf, h => by
    unfold charsR at h
    split at h
    · rename_i hi
      split at h
      · cases h
      · rename_i v n hc
        cases hr : charsR s f (i + n) with
        | none => rw [hr] at h; cases h
        | some l' =>
          rw [hr] at h
          cases h
          obtain ⟨h1, h2, h3, h4, h5⟩ := charR_dec hi hc
          obtain ⟨g1, g2⟩ := charsR_enc s f (i + n) l' (by omega) hr
          rw [charR_enc hi hc, g1]
          refine ⟨by simp [List.flatMap_cons], fun u hu => ?_⟩
          rcases List.mem_cons.1 hu with rfl | hu
          · exact h5
          · exact g2 u hu
    · cases h
      rw [List.drop_eq_nil_of_le (by rw [ba_len']; omega)]
      simp
theorem enc_charsR (s : ByteArray) : ∀ (l : List Int) (f i : Nat), s.size - i ≤ f → (∀ v ∈ l, Utf8.valid v = true) → s.data.toList.drop i = l.flatMap encL → charsR s f i = some l
  | [], f, i, hf, hv, h => by
    have hi : ¬ i < s.size := by
      intro hi
      rw [drop_bAt hi] at h
      cases h
    cases f with
    | zero => rfl
    | succ f => unfold charsR; rw [if_neg hi]
  | v :: l, f, i, hf, hv, h => by
    rw [List.flatMap_cons] at h
    obtain ⟨h1, h2, h3⟩ := enc_charR (hv v (List.mem_cons_self ..)) h
    obtain ⟨f, rfl⟩ : ∃ g, f = g + 1 := ⟨f - 1, by omega⟩
    obtain ⟨_, g2, g3, _, _⟩ := charR_dec h1 h2
    unfold charsR
    rw [if_pos h1, h2]
    simp only
    rw [enc_charsR s l f (i + (encL v).length) (by omega) (fun u hu => hv u (List.mem_cons_of_mem _ hu)) h3]
    rfl
def vals (l : List Int) : Prop := ∀ v ∈ l, Utf8.valid v = true
theorem charsF_bytes {s : ByteArray} {l : List Int} (h : charsF s = some l) : runesBytes l = s ∧ vals l := by
  obtain ⟨h1, h2⟩ := charsR_enc s s.size 0 l (by omega) h
  refine ⟨ba_ext ?_, h2⟩
  rw [rb_data, ← h1]
  rfl
theorem bytes_charsF {l : List Int} (h : vals l) : charsF (runesBytes l) = some l :=
  enc_charsR _ l _ 0 (by omega) h (by rw [rb_data]; rfl)
theorem vals_append {x y : List Int} (h1 : vals x) (h2 : vals y) : vals (x ++ y) := fun v hv => (List.mem_append.1 hv).elim (h1 v) (h2 v)
theorem vals_take {x : List Int} (h : vals x) (n : Nat) : vals (x.take n) := fun v hv => h v (List.mem_of_mem_take hv)
theorem vals_drop {x : List Int} (h : vals x) (n : Nat) : vals (x.drop n) := fun v hv => h v (List.mem_of_mem_drop hv)
theorem rb_len (x y : List Int) : (runesBytes (x ++ y)).size = (runesBytes x).size + (runesBytes y).size := by
  rw [rb_append, ByteArray.size_append]
end Go.Eng
/-
  DERIVED: THE SHELF's CONTRACTS AT THIS DUMP, IN PLAIN WORDS (tools/lay-plain.mjs out of 'Lay.lean', which tools/lay-shelf.mjs wrote): THE SAME DECLARATIONS UNDER THE SAME NAMES: 'import', 'namespace', 'open', 'def', 'theorem' AND NOTHING ELSE: no command of the shelf's: FOR A HAND-IN. Each laying: the table of numbers ('.._ren') and one theorem, a field a fact of the dump's own or the kernel's comparison; each contract: ONE APPLICATION.
-/
set_option maxRecDepth 100000
namespace Go.Proofs
open Go.Shelf
def Tryd.laysValid_ren : Go.Shelf.Ren := ⟨fun | 196 => 48 | 259 => 55 | n => n, fun | 9 => 9 | 4 => 4 | 3 => 3 | 5 => 5 | 12 => 12 | 119 => 102 | 0 => 0 | 46 => 98 | 139 => 105 | 138 => 104 | 53 => 107 | n => n, fun | 3 => 0 | 4 => 1 | n => n⟩
theorem Tryd.laysValid : Go.Proofs.Lays.n196 Tryd.prog Tryd.laysValid_ren := {
  mixed := by kernel_rfl
  f196 := Tryd.func48.trans (congrArg some (by kernel_rfl))
  f259 := Tryd.func55.trans (congrArg some (by kernel_rfl))
  t0 := Tryd.underlying0
  a0 := Tryd.isAgg0
  z0 := Tryd.sizeOf0
  v0 := Tryd.zeroValue0
  t3 := Tryd.underlying3
  a3 := Tryd.isAgg3
  z3 := Tryd.sizeOf3
  v3 := Tryd.zeroValue3
  t4 := Tryd.underlying4
  a4 := Tryd.isAgg4
  z4 := Tryd.sizeOf4
  v4 := Tryd.zeroValue4
  t5 := Tryd.underlying5
  a5 := Tryd.isAgg5
  z5 := Tryd.sizeOf5
  v5 := Tryd.zeroValue5
  t9 := Tryd.underlying9
  a9 := Tryd.isAgg9
  z9 := Tryd.sizeOf9
  v9 := Tryd.zeroValue9
  t12 := Tryd.underlying12
  a12 := Tryd.isAgg12
  z12 := Tryd.sizeOf12
  v12 := Tryd.zeroValue12
  t46 := Tryd.underlying98
  a46 := Tryd.isAgg98
  z46 := Tryd.sizeOf98
  v46 := Tryd.zeroValue98
  t53 := Tryd.underlying107
  a53 := Tryd.isAgg107
  z53 := Tryd.sizeOf107
  v53 := Tryd.zeroValue107
  t119 := Tryd.underlying102
  a119 := Tryd.isAgg102
  z119 := Tryd.sizeOf102
  t138 := Tryd.underlying104
  a138 := Tryd.isAgg104
  z138 := Tryd.sizeOf104
  v138 := Tryd.zeroValue104
  t139 := Tryd.underlying105
  a139 := Tryd.isAgg105
  z139 := Tryd.sizeOf105
  v139 := Tryd.zeroValue105
  g3 := by kernel_rfl
  g4 := by kernel_rfl }
def Tryd.laysCount_ren : Go.Shelf.Ren := ⟨fun | 195 => 47 | n => n, fun | 9 => 9 | 3 => 3 | 0 => 0 | 4 => 4 | n => n, fun | n => n⟩
theorem Tryd.laysCount : Go.Proofs.Lays.n195 Tryd.prog Tryd.laysCount_ren := {
  mixed := by kernel_rfl
  f195 := Tryd.func47.trans (congrArg some (by kernel_rfl))
  t0 := Tryd.underlying0
  a0 := Tryd.isAgg0
  z0 := Tryd.sizeOf0
  v0 := Tryd.zeroValue0
  t3 := Tryd.underlying3
  a3 := Tryd.isAgg3
  z3 := Tryd.sizeOf3
  v3 := Tryd.zeroValue3
  t4 := Tryd.underlying4
  a4 := Tryd.isAgg4
  z4 := Tryd.sizeOf4
  v4 := Tryd.zeroValue4
  t9 := Tryd.underlying9
  a9 := Tryd.isAgg9
  z9 := Tryd.sizeOf9
  v9 := Tryd.zeroValue9 }
end Go.Proofs
/- Which texts are valid: the library's word is the reference's. -/
set_option linter.unusedVariables false
set_option linter.unusedSimpArgs false
set_option maxRecDepth 100000
namespace Go.Eng
open Go Go.RowKit Go.Proofs
theorem byteN (n : Nat) : ((n : Int).toNat).toUInt8 = UInt8.ofNat n := by rw [Int.toNat_natCast]
theorem enc_same (v : Int) (hv : Utf8.valid v = true) : Lib.encodeRune v = encL v := by
  obtain ⟨h0, h1, h2⟩ := valid_inv hv
  obtain ⟨n, rfl⟩ : ∃ n : Nat, v = n := ⟨v.toNat, by omega⟩
  unfold Lib.encodeRune Lib.encodeRuneZ encL Utf8.encode
  rw [if_pos hv]
  simp only [Int.toNat_natCast]
  by_cases c1 : n < 128
  · rw [if_pos c1, if_pos (by omega)]
    simp only [List.map_cons, List.map_nil, byteN]
  rw [if_neg c1, if_neg (by omega)]
  by_cases c2 : n < 2048
  · rw [if_pos c2, if_pos (by omega)]
    simp only [List.map_cons, List.map_nil]
    rw [show (192 + (n : Int) / 64).toNat = 0xC0 + n / 64 from by omega, show (128 + (n : Int) % 64).toNat = 0x80 + n % 64 from by omega]
  rw [if_neg c2, if_neg (by omega)]
  by_cases c3 : n < 65536
  · rw [if_pos c3, if_pos (by omega)]
    simp only [List.map_cons, List.map_nil]
    rw [show (224 + (n : Int) / 4096).toNat = 0xE0 + n / 4096 from by omega, show (128 + (n : Int) / 64 % 64).toNat = 0x80 + n / 64 % 64 from by omega, show (128 + (n : Int) % 64).toNat = 0x80 + n % 64 from by omega]
  rw [if_neg c3, if_neg (by omega), if_pos (by omega)]
  simp only [List.map_cons, List.map_nil]
  rw [show (240 + (n : Int) / 262144).toNat = 0xF0 + n / 262144 from by omega, show (128 + (n : Int) / 4096 % 64).toNat = 0x80 + n / 4096 % 64 from by omega, show (128 + (n : Int) / 64 % 64).toNat = 0x80 + n / 64 % 64 from by omega, show (128 + (n : Int) % 64).toNat = 0x80 + n % 64 from by omega]
theorem enc_bad (n : Nat) (hv : ¬ Utf8.valid (n : Int) = true) : Lib.encodeRune (n : Int) = encL 65533 := by
  unfold Utf8.valid at hv
  simp only [Bool.or_eq_true, Bool.and_eq_true, decide_eq_true_eq] at hv
  unfold Lib.encodeRune Lib.encodeRuneZ
  rw [if_neg (by omega), if_neg (by omega), if_neg (by omega), if_neg (by omega)]
  rfl
/-- What the reference refuses, the model's decoder marks. -/
theorem dec_none {s : ByteArray} {i : Nat} (hi : i < s.size) (h : charR s i = none) : Utf8.decode s i = (65533, 1) := by
  rw [← Lib.decodeL_drop]
  have hne : s.data.toList.drop i ≠ [] := by
    rw [drop_bAt hi]; simp
  false_or_by_contra
  rename_i hn
  have hv : ¬ ((Lib.decodeL (s.data.toList.drop i)).1 = 65533 ∧ (Lib.decodeL (s.data.toList.drop i)).2 = 1) := fun e => hn (Prod.ext e.1 e.2)
  have he := Lib.encode_decode _ hne hv
  have hs : s.data.toList.drop i = Lib.encodeRune ((Lib.decodeL (s.data.toList.drop i)).1 : Int) ++ (s.data.toList.drop i).drop (Lib.decodeL (s.data.toList.drop i)).2 := by
    rw [he, List.take_append_drop]
  by_cases hval : Utf8.valid ((Lib.decodeL (s.data.toList.drop i)).1 : Int) = true
  · rw [enc_same _ hval] at hs
    have := (enc_charR hval hs).2.1
    rw [h] at this; cases this
  · rw [enc_bad _ hval] at hs
    have := (enc_charR (v := 65533) rfl hs).2.1
    rw [h] at this; cases this
theorem valid_chars (s : ByteArray) : ∀ (f i : Nat), s.size - i ≤ f → Lib.validD (s.data.toList.drop i) = (charsR s f i).isSome
  | 0, i, hf => by
    rw [List.drop_eq_nil_of_le (by rw [ba_len']; omega)]
    rfl
  | f + 1, i, hf => by
    unfold charsR
    by_cases hi : i < s.size
    · rw [if_pos hi]
      have hne : s.data.toList.drop i ≠ [] := by rw [drop_bAt hi]; simp
      rw [Lib.validD_step _ hne, Lib.decodeL_drop]
      cases hc : charR s i with
      | none =>
        rw [dec_none hi hc]
        simp
      | some x =>
        obtain ⟨v, n⟩ := x
        obtain ⟨h1, h2, h3, h4, h5⟩ := charR_dec hi hc
        rw [h1]
        have hno : ¬ (v.toNat = 65533 ∧ n = 1) := fun ⟨e1, e2⟩ => by
          have := charR_enc hi hc
          have hv : v = 65533 := by omega
          subst hv e2
          have h6 := enc_charR (v := 65533) rfl this
          rw [hc] at h6
          have := h6.2.1
          simp only [Option.some.injEq, Prod.mk.injEq, true_and] at this
          exact absurd this (by decide)
        simp only
        rw [if_neg hno, List.drop_drop, valid_chars s f (i + n) (by omega)]
        simp
    · rw [if_neg hi, List.drop_eq_nil_of_le (by rw [ba_len']; omega)]
      rfl
theorem valid_same (s : ByteArray) : Lib.validD s.data.toList = (charsF s).isSome := valid_chars s s.size 0 (by omega)
theorem valid_c (s : ByteArray) (hs : s.size ≤ 100000000) : CallV Tryd.prog 48 [vcs s] [] (fun r own' => own' = [] ∧ r = vcb (charsF s).isSome) := by
  rw [← valid_same]
  exact callV_calls (vs := [.string s]) (by simp [Value.oneCell']) rfl (fun m w hg hw => Any.utf8_ValidString Tryd.laysValid s w (by omega) (hg w hw))
end Go.Eng
/- Runs and items: which runs may be. -/
set_option linter.unusedVariables false
set_option linter.unusedSimpArgs false
set_option maxRecDepth 100000
set_option maxHeartbeats 4000000
namespace Go.Eng
open Go Go.RowKit Go.Proofs
structure It where
  id : I2
  left : I2
  right : I2
  ch : Int
structure Ru where
  id : I2
  left : I2
  right : I2
  text : ByteArray
def it0 : It := ⟨(0, 0), (0, 0), (0, 0), 0⟩
def ru0 : Ru := ⟨(0, 0), (0, 0), (0, 0), ⟨#[]⟩⟩
abbrev itF (x : It) : List IC := [vu x.id.1, vu x.id.2, vu x.left.1, vu x.left.2, vu x.right.1, vu x.right.2, vr x.ch]
abbrev ruF (x : Ru) : List IC := [vu x.id.1, vu x.id.2, vu x.left.1, vu x.left.2, vu x.right.1, vu x.right.2, .v (.string x.text)]
abbrev itS (l : List It) : AV := .c (.sl 7 l.length fun k => itF (l.getD k it0))
abbrev ruS (l : List Ru) : AV := .c (.sl 7 l.length fun k => ruF (l.getD k ru0))
def itOk (x : It) : Prop := u32P x.id ∧ u32P x.left ∧ u32P x.right
def ruOk (x : Ru) : Prop := u32P x.id ∧ u32P x.left ∧ u32P x.right ∧ x.text.size ≤ 1048576
/-- How many runes the library counts in a text that is valid. -/
theorem count_chars (s : ByteArray) : ∀ (f i : Nat) (l : List Int), s.size - i ≤ f → charsR s f i = some l → Lib.runeCountFrom s f i = l.length
  | 0, i, l, hf, h => by cases h; rfl
  | f + 1, i, l, hf, h => by
    unfold charsR at h
    unfold Lib.runeCountFrom
    split at h
    · rename_i hi
      rw [if_pos hi]
      split at h
      · cases h
      · rename_i v n hc
        obtain ⟨h1, h2, h3, h4, h5⟩ := charR_dec hi hc
        cases hr : charsR s f (i + n) with
        | none => rw [hr] at h; cases h
        | some l' =>
          rw [hr] at h
          cases h
          rw [h1, count_chars s f (i + n) l' (by omega) hr, List.length_cons]
          omega
    · rename_i hi
      cases h
      rw [if_neg hi]
      rfl
theorem count_of {s : ByteArray} {l : List Int} (h : charsF s = some l) : Lib.runeCount s = l.length := count_chars s s.size 0 l (by omega) h
theorem count_c (s : ByteArray) (hs : s.size ≤ 100000000) : CallV Tryd.prog 47 [vcs s] [] (fun r own' => own' = [] ∧ r = vci .i64 (Lib.runeCount s)) :=
  callV_calls (vs := [.string s]) (by simp [Value.oneCell']) rfl (fun m w hg hw => (Any.utf8_RuneCountInString Tryd.laysCount s w (by omega)).mono fun e w' h => ⟨h.1, by
    obtain ⟨_, pos, rfl⟩ := h
    exact Below.alloc (Below.refl _ _) (Nat.le_refl _) _⟩)
def lastC : Int := 4294967294
/-- May a run be? -/
def mayR (r : Ru) : Bool := match charsF r.text with
  | none => false
  | some l => decide (0 < l.length ∧ r.id.1 ≠ 0 ∧ r.id.2 + l.length - 1 ≤ lastC)
theorem chars_len {s : ByteArray} : ∀ (f i : Nat) (l : List Int), charsR s f i = some l → l.length ≤ s.size - i
  | 0, i, l, h => by cases h; simp
  | f + 1, i, l, h => by
    unfold charsR at h
    split at h
    · rename_i hi
      split at h
      · cases h
      · rename_i v n hc
        obtain ⟨h1, h2, h3, h4, h5⟩ := charR_dec hi hc
        cases hr : charsR s f (i + n) with
        | none => rw [hr] at h; cases h
        | some l' =>
          rw [hr] at h
          cases h
          have := chars_len f (i + n) l' hr
          rw [List.length_cons]
          omega
    · cases h
      simp
theorem mayR_none {r : Ru} (hc : charsF r.text = none) : mayR r = false := by unfold mayR; rw [hc]
theorem mayR_some {r : Ru} {l : List Int} (hc : charsF r.text = some l) : mayR r = decide (0 < l.length ∧ r.id.1 ≠ 0 ∧ r.id.2 + l.length - 1 ≤ lastC) := by unfold mayR; rw [hc]
theorem callV_res {P : Program} [HasGl P] {f : FuncId} {args : List AV} {own : List (Option Ob)} {Q Q' : AV → List (Option Ob) → Prop} (hc : CallV P f args own Q) (hQ : ∀ r o, Q r o → ∃ r', Q' r' o ∧ ∀ (L : Nat → Value) (h : Hp) v, DenA L h r v → DenA L h r' v) : CallV P f args own Q' := by
  refine ⟨fun mine L F h w vs hgl hm ha => (hc.out mine L F h w vs hgl hm ha).mono ?_⟩
  rintro e w' ⟨r, v, L', F', h', own', h1, h2, h3, h4, h5, h6, h7, h8⟩
  obtain ⟨r', q1, q2⟩ := hQ r own' h8
  exact ⟨r', v, L', F', h', own', h1, q2 _ _ _ h2, h3, h4, h5, h6, h7, q1⟩
theorem den_nil_sl {L : Nat → Value} {h : Hp} {v : Value} (sz : Nat) (f : Nat → List IC) (hd : Den L h (.v (.slice none 0 0)) v) : Den L h (.sl sz 0 f) v := by
  cases hd
  exact .sl _ _ _ _ _ ⟨0, 0, none⟩ (fun _ _ => undef) (Nat.le_refl _) (by omega) (fun hp => by omega) (fun k hk => by omega) (fun k hk => by omega) (fun k hk => by omega) (fun k hk => by omega)
/-- As the contract of Chars, the empty list told as a slice. -/
theorem chars_r (s : ByteArray) (hs : s.size ≤ 100000000) : CallV Tryd.prog 39 [vcs s] [] (fun r own' => own' = [] ∧ r = .tup [rns ((charsF s).getD []), vcb (charsF s).isSome]) := by
  refine callV_res (chars_c s hs) ?_
  rintro r o ⟨rfl, rfl⟩
  refine ⟨_, ⟨rfl, rfl⟩, fun L h v hd => ?_⟩
  unfold charsV at hd
  cases hc : charsF s with
  | some l => rw [hc] at hd; exact hd
  | none =>
    rw [hc] at hd
    obtain ⟨vs, rfl, hl, hd⟩ := hd
    refine ⟨vs, rfl, hl, fun j a u ha hu => ?_⟩
    match j with
    | 0 =>
      cases ha
      exact den_nil_sl 1 _ (hd 0 _ u rfl hu)
    | 1 => cases ha; exact hd 1 _ u rfl hu
    | j + 2 => simp at ha
theorem mayrun_c (r : Ru) (hr : ruOk r) : CallV Tryd.prog 16 [.agg (ruF r)] [] (fun x own' => own' = [] ∧ x = vcb (mayR r)) := by
  obtain ⟨⟨⟨a1, a2⟩, a3, a4⟩, _, _, hs⟩ := hr
  refine callV_pure Tryd.func16 rfl ttok ftok rfl rfl rfl (Nat.le_of_ble_eq_true rfl) ?_
  conv => whnf
  refine call_pure (chars_r r.text (by omega)) rfl ?_
  rintro _ rfl
  cases hc : charsF r.text with
  | none =>
    rw [mayR_none hc]
    conv => whnf
    try rfl
  | some l =>
    rw [mayR_some hc]
    have hl := chars_len (s := r.text) r.text.size 0 l hc
    have e1 : IntKind.i64.wrap (IntKind.i64.wrap (IntKind.i64.wrap r.id.2 + (l.length : Int)) - 1) = r.id.2 + l.length - 1 := by
      rw [w_i64 (x := r.id.2) (by omega) (by omega), w_i64 (x := r.id.2 + (l.length : Int)) (by omega) (by omega), w_i64 (by omega) (by omega)]
    rw [show (some l).getD [] = l from rfl, show (some l).isSome = true from rfl]
    conv => whnf
    rw [e1]
    refine congrArg vcb ?_
    rw [Bool.eq_iff_iff, decide_eq_true_iff]
    simp [pickB, isLit, lastC, and_assoc]
theorem may_c (r : Ru) (hr : ruOk r) : CallV Tryd.prog 35 [.agg (ruF r)] [] (fun x own' => own' = [] ∧ x = vcb (mayR r)) := by
  obtain ⟨ha, _, _, hs⟩ := hr
  have hv : (charsF r.text).isSome = false ∨ (charsF r.text).isSome = true := by cases (charsF r.text).isSome <;> simp
  refine callV_pure Tryd.func35 rfl ttok ftok rfl rfl rfl (Nat.le_of_ble_eq_true rfl) ?_
  conv => whnf
  refine call_pure (count_c r.text (by omega)) rfl ?_
  rintro _ rfl
  cases hc : charsF r.text with
  | none =>
    rw [mayR_none hc]
    conv => whnf
    cases hz : (((Lib.runeCount r.text : Nat) : Int) == 0) with
    | true =>
      conv => whnf
      try rfl
    | false =>
      conv => whnf
      refine call_pure (valid_c r.text (by omega)) rfl ?_
      rintro _ rfl
      rw [hc]
      conv => whnf
      try rfl
  | some l =>
    rw [mayR_some hc, count_of hc]
    have hl := chars_len (s := r.text) r.text.size 0 l hc
    conv => whnf
    cases hz : (((l.length : Nat) : Int) == 0) with
    | true =>
      have hz := eq_of_beq hz
      rw [decide_eq_false (by omega)]
      conv => whnf
      try rfl
    | false =>
      have hz : ¬ ((l.length : Nat) : Int) = 0 := by simpa using hz
      have e1 : IntKind.i64.wrap ((l.length : Int) - 1) = (l.length : Int) - 1 := w_i64 (by omega) (by omega)
      conv => whnf
      refine call_pure (valid_c r.text (by omega)) rfl ?_
      rintro _ rfl
      rw [hc]
      conv => whnf
      rw [e1]
      refine call_pure (after_c r.id ha ((l.length : Int) - 1) 4294967294 (by omega) (by omega) (by omega) (by omega)) rfl ?_
      rintro _ rfl
      by_cases h0 : aftC r.id ((l.length : Int) - 1) 4294967294 = 0
      · rw [show aftV r.id ((l.length : Int) - 1) 4294967294 = _ from by unfold aftV; rw [if_pos h0]]
        conv => whnf
        rw [decide_eq_true]
        unfold aftC at h0
        unfold lastC
        split at h0
        · cases h0
        · split at h0
          · cases h0
          · omega
      · rw [show aftV r.id ((l.length : Int) - 1) 4294967294 = _ from by unfold aftV; rw [if_neg h0]]
        conv => whnf
        have hf : ¬ (0 < l.length ∧ r.id.1 ≠ 0 ∧ r.id.2 + l.length - 1 ≤ lastC) := fun h1 => by
          refine h0 ?_
          unfold aftC
          unfold lastC at h1
          rw [if_neg (by omega), if_neg (by omega)]
        rw [decide_eq_false hf]
        try rfl
/-- Does an item go on from another one? -/
def onR (x y : It) : Prop := aftC y.id 1 lastC = 0 ∧ x.id = (y.id.1, y.id.2 + 1) ∧ x.left = y.id ∧ x.right = y.right
instance (x y : It) : Decidable (onR x y) := by unfold onR; infer_instance
theorem on_c (x y : It) (hy : itOk y) : CallV Tryd.prog 52 [.agg (itF x), .agg (itF y)] [] (fun r own' => own' = [] ∧ r = vcb (decide (onR x y))) := by
  obtain ⟨ha, _, _⟩ := hy
  refine callV_pure Tryd.func52 rfl ttok ftok rfl rfl rfl (Nat.le_of_ble_eq_true rfl) ?_
  conv => whnf
  refine call_pure (after_c y.id ha 1 4294967294 (by omega) (by omega) (by omega) (by omega)) rfl ?_
  rintro _ rfl
  by_cases h0 : aftC y.id 1 4294967294 = 0
  · rw [show aftV y.id 1 4294967294 = _ from by unfold aftV; rw [if_pos h0]]
    conv => whnf
    have h1 : aftC y.id 1 lastC = 0 := h0
    refine congrArg vcb ?_
    rw [Bool.eq_iff_iff, decide_eq_true_iff]
    unfold onR
    simp [pickB, isLit, Prod.ext_iff, h1, and_assoc]
  · rw [show aftV y.id 1 4294967294 = _ from by unfold aftV; rw [if_neg h0]]
    conv => whnf
    have h1 : ¬ aftC y.id 1 lastC = 0 := h0
    refine congrArg vcb ?_
    rw [decide_eq_false (fun h : onR x y => h1 h.1)]
    simp [pickB, isLit, h0]
theorem ron_c (x y : It) (hy : itOk y) : CallV Tryd.prog 40 [.agg (itF x), .agg (itF y)] [] (fun r own' => own' = [] ∧ r = vcb (decide (onR x y))) := by
  obtain ⟨ha, _, _⟩ := hy
  refine callV_pure Tryd.func40 rfl ttok ftok rfl rfl rfl (Nat.le_of_ble_eq_true rfl) ?_
  conv => whnf
  refine call_pure (rafter_c y.id ha 1 4294967294 (by omega) (by omega) (by omega) (by omega)) rfl ?_
  rintro _ rfl
  by_cases h0 : aftC y.id 1 4294967294 = 0
  · rw [show aftW y.id 1 4294967294 = _ from by unfold aftW; rw [if_pos h0]]
    conv => whnf
    have h1 : aftC y.id 1 lastC = 0 := h0
    refine congrArg vcb ?_
    rw [Bool.eq_iff_iff, decide_eq_true_iff]
    unfold onR
    simp [pickB, isLit, Prod.ext_iff, h1, and_assoc]
  · rw [show aftW y.id 1 4294967294 = _ from by unfold aftW; rw [if_neg h0]]
    conv => whnf
    have h1 : ¬ aftC y.id 1 lastC = 0 := h0
    refine congrArg vcb ?_
    rw [decide_eq_false (fun h : onR x y => h1 h.1)]
    simp [pickB, isLit, h0]
theorem it_ext {x y : It} (h1 : x.id.1 = y.id.1) (h2 : x.id.2 = y.id.2) (h3 : x.left.1 = y.left.1) (h4 : x.left.2 = y.left.2) (h5 : x.right.1 = y.right.1) (h6 : x.right.2 = y.right.2) (h7 : x.ch = y.ch) : x = y := by
  obtain ⟨⟨a, b⟩, ⟨c, d⟩, ⟨e, f⟩, g⟩ := x
  obtain ⟨⟨a', b'⟩, ⟨c', d'⟩, ⟨e', f'⟩, g'⟩ := y
  simp only at h1 h2 h3 h4 h5 h6 h7
  rw [h1, h2, h3, h4, h5, h6, h7]
theorem ru_ext {x y : Ru} (h1 : x.id.1 = y.id.1) (h2 : x.id.2 = y.id.2) (h3 : x.left.1 = y.left.1) (h4 : x.left.2 = y.left.2) (h5 : x.right.1 = y.right.1) (h6 : x.right.2 = y.right.2) (h7 : x.text = y.text) : x = y := by
  obtain ⟨⟨a, b⟩, ⟨c, d⟩, ⟨e, f⟩, g⟩ := x
  obtain ⟨⟨a', b'⟩, ⟨c', d'⟩, ⟨e', f'⟩, g'⟩ := y
  simp only at h1 h2 h3 h4 h5 h6 h7
  rw [h1, h2, h3, h4, h5, h6, h7]
theorem list_eq {α : Type} (d : α) {a b : List α} (hl : a.length = b.length) (h : ∀ j, j < a.length → a.getD j d = b.getD j d) : a = b := by
  refine List.ext_getElem hl (fun j h1 h2 => ?_)
  have := h j h1
  rw [List.getD_eq_getElem?_getD, List.getD_eq_getElem?_getD, List.getElem?_eq_getElem h1, List.getElem?_eq_getElem h2] at this
  exact this
theorem ba_beq (a b : ByteArray) : (a == b) = true ↔ a = b := by
  rcases a with ⟨x⟩
  rcases b with ⟨y⟩
  show ((x == y : Bool) = true) ↔ _
  rw [beq_iff_eq, ByteArray.mk.injEq]
theorem ba_bne (a : ByteArray) : (a == a) = true := (ba_beq a a).2 rfl
def siI (a b : List It) (n : Nat) (st : St) : Prop := ∃ k : Nat, n = a.length - k ∧ k ≤ a.length ∧ (∀ j, j < k → a.getD j it0 = b.getD j it0) ∧ st = ⟨26, 0, [(0, itS a), (1, itS b), (5, vci .i64 (k : Int))], []⟩
def srI (a b : List Ru) (n : Nat) (st : St) : Prop := ∃ k : Nat, n = a.length - k ∧ k ≤ a.length ∧ (∀ j, j < k → a.getD j ru0 = b.getD j ru0) ∧ st = ⟨26, 0, [(0, ruS a), (1, ruS b), (5, vci .i64 (k : Int))], []⟩
end Go.Eng
/- Runs and items: items with rising Ids; runs' items. -/
set_option linter.unusedVariables false
set_option linter.unusedSimpArgs false
set_option maxRecDepth 100000
set_option maxHeartbeats 4000000
namespace Go.Eng
open Go Go.RowKit Go.Proofs
abbrev itRow (l : List It) : Option Ob := some (.row 56 7 l.length fun k => itF (l.getD k it0))
def goodIt (x : It) : Prop := Utf8.valid x.ch = true ∧ x.id.1 ≠ 0 ∧ x.id.2 ≤ lastC
def risOk (l : List It) : Prop := (∀ j, j < l.length → goodIt (l.getD j it0)) ∧ ∀ j, j + 1 < l.length → beforeR (l.getD j it0).id (l.getD (j + 1) it0).id
theorem take_snoc {α : Type} {l : List α} {k : Nat} {d : α} (h : k < l.length) : l.take (k + 1) = l.take k ++ [l.getD k d] := by
  rw [List.take_add_one, List.getElem?_eq_getElem h]
  simp [List.getD_eq_getElem?_getD, List.getElem?_eq_getElem h]
def risL (m x : List It) : Prop := risOk x ∧ (∀ y, y ∈ x → itOk y)
theorem ris_snoc {m x : List It} {a : It} (h : risL m x) (ha : itOk a) (hg : goodIt a) (hb : x ≠ [] → beforeR (x.getD (x.length - 1) it0).id a.id) : risL m (x ++ [a]) := by
  have e1 : ∀ j, j < x.length → (x ++ [a]).getD j it0 = x.getD j it0 := fun j hj => by
    rw [List.getD_eq_getElem?_getD, List.getElem?_append_left hj, ← List.getD_eq_getElem?_getD]
  have e2 : (x ++ [a]).getD x.length it0 = a := by
    rw [List.getD_eq_getElem?_getD, List.getElem?_append_right (Nat.le_refl _), Nat.sub_self]
    rfl
  refine ⟨⟨fun j hj => ?_, fun j hj => ?_⟩, fun y hy => ?_⟩
  · rw [List.length_append, List.length_singleton] at hj
    rcases Nat.lt_succ_iff_lt_or_eq.1 hj with h2 | rfl
    · rw [e1 j h2]; exact h.1.1 j h2
    · rw [e2]; exact hg
  · rw [List.length_append, List.length_singleton] at hj
    rcases Nat.lt_succ_iff_lt_or_eq.1 hj with h2 | h2
    · rw [e1 j (by omega), e1 (j + 1) h2]; exact h.1.2 j h2
    · rw [e1 j (by omega), h2, e2]
      have := hb (fun e => by rw [e] at h2; cases h2)
      rw [show x.length - 1 = j from by omega] at this
      exact this
  · rcases List.mem_append.1 hy with hy | hy
    · exact h.2 y hy
    · rw [List.mem_singleton.1 hy]; exact ha
theorem itOk_at {m : List It} (hok : ∀ x, x ∈ m → itOk x) {k : Nat} (hk : k < m.length) : itOk (m.getD k it0) := by
  rw [List.getD_eq_getElem?_getD, List.getElem?_eq_getElem hk]
  exact hok _ (List.getElem_mem hk)
theorem one_at (c : List IC) : ∀ k, k < 1 → (fun _ : Nat => c) k = [c].getD k [] := fun k hk => by
  obtain rfl : k = 0 := by omega
  rfl
def riI (m : List It) (n : Nat) (st : St) : Prop := ∃ (k : Nat) (x : List It), n = m.length - k ∧ k ≤ m.length ∧ x.length ≤ k ∧ risL m x ∧ st = ⟨65, 0, [(0, itS m), (3, .c (.row 0)), (4, vci .i64 (k : Int))], [itRow x]⟩
end Go.Eng
/- Runs' items. -/
set_option linter.unusedVariables false
set_option linter.unusedSimpArgs false
set_option maxRecDepth 100000
set_option maxHeartbeats 4000000
namespace Go.Eng
open Go Go.RowKit Go.Proofs
theorem drawV_cut {P : Program} [HasGl P] (S : St) {id : Nat} {ops : Array Oper} {K : St → Prop} {st : St} (h : DrawV P id ops (fun st' => Weak st' S) st) (hK : K S) : DrawV P id ops K st := by
  refine ⟨fun may w0 h0 a w hs => ?_⟩
  refine Code.wp_mono (fun e a' w' hh => ?_) (h.out may w0 h0 a w hs)
  obtain ⟨h1, st', h2, h3⟩ := hh
  exact ⟨h1, S, h3.out may w0 h0 a' w' h2, hK⟩
def clk (c : Int) (j : Nat) : Int := (c + j) % 4294967296
def chOf (r : Ru) : List Int := (charsF r.text).getD []
def leftAt (r : Ru) (j : Nat) : I2 := if j = 0 then r.left else (r.id.1, clk r.id.2 (j - 1))
def itAt (r : Ru) (l : List Int) (j : Nat) : It := ⟨(r.id.1, clk r.id.2 j), leftAt r j, r.right, l.getD j 0⟩
def itsR (r : Ru) : List It := (List.range (chOf r).length).map (itAt r (chOf r))
def itemsR (rs : List Ru) : List It := rs.flatMap itsR
theorem clk_0 {c : Int} (h : 0 ≤ c ∧ c ≤ 4294967295) : clk c 0 = c := by unfold clk; omega
theorem clk_s (c : Int) (j : Nat) : IntKind.u32.wrap (clk c j + 1) = clk c (j + 1) := by rw [w_u32]; unfold clk; omega
def imO (m : List Ru) (n : Nat) (st : St) : Prop := ∃ (k : Nat), n = m.length - k ∧ k ≤ m.length ∧ st = ⟨42, 0, [(3, .c (.row 0)), (10, ruS m), (11, vci .i64 m.length), (12, vci .i64 (k : Int))], [itRow (itemsR (m.take k))]⟩
theorem itsR_len (r : Ru) : (itsR r).length = (chOf r).length := by unfold itsR; simp
theorem chOf_len (r : Ru) : (chOf r).length ≤ r.text.size := by
  unfold chOf
  cases hc : charsF r.text with
  | none => simp
  | some l => exact Nat.le_trans (chars_len (s := r.text) r.text.size 0 l hc) (by omega)
theorem itemsR_len (B : Nat) : ∀ rs : List Ru, (∀ x, x ∈ rs → x.text.size ≤ B) → (itemsR rs).length ≤ rs.length * B
  | [], _ => by simp [itemsR]
  | r :: rs, h => by
    have h1 := itemsR_len B rs (fun x hx => h x (List.mem_cons_of_mem _ hx))
    have h2 := h r (List.mem_cons_self ..)
    have h3 := chOf_len r
    unfold itemsR at h1 ⊢
    rw [List.flatMap_cons, List.length_append, itsR_len, List.length_cons, Nat.succ_mul]
    omega
theorem itemsR_snoc (rs : List Ru) (r : Ru) : itemsR (rs ++ [r]) = itemsR rs ++ itsR r := by unfold itemsR; rw [List.flatMap_append]; simp
theorem chars_step {s : ByteArray} {f pos : Nat} {l : List Int} (hf : s.size - pos ≤ f) (h : charsR s f pos = some l) (hlt : pos < s.size) : ∃ v n l' g, l = v :: l' ∧ f = g + 1 ∧ Utf8.decode s pos = (v.toNat, n) ∧ pos + n ≤ s.size ∧ 1 ≤ n ∧ 0 ≤ v ∧ Utf8.valid v = true ∧ charsR s g (pos + n) = some l' := by
  obtain ⟨g, rfl⟩ : ∃ g, f = g + 1 := ⟨f - 1, by omega⟩
  unfold charsR at h
  rw [if_pos hlt] at h
  split at h
  · cases h
  · rename_i v n hc
    obtain ⟨h1, h2, h3, h4, h5⟩ := charR_dec hlt hc
    cases hr : charsR s g (pos + n) with
    | none => rw [hr] at h; cases h
    | some l' =>
      rw [hr] at h
      cases h
      exact ⟨v, n, l', g, rfl, rfl, h1, h2, h3, h4, h5, hr⟩
theorem chars_end {s : ByteArray} {f pos : Nat} {l : List Int} (h : charsR s f pos = some l) (hlt : ¬ pos < s.size) : l = [] := by
  cases f with
  | zero => cases h; rfl
  | succ f =>
    unfold charsR at h
    rw [if_neg hlt] at h
    cases h; rfl
theorem drop_head {α : Type} {l l' : List α} {j : Nat} {v d : α} (h : l.drop j = v :: l') : j < l.length ∧ l.getD j d = v ∧ l.drop (j + 1) = l' := by
  have hj : j < l.length := by
    false_or_by_contra
    rw [List.drop_eq_nil_of_le (by omega)] at h
    cases h
  rw [List.drop_eq_getElem_cons hj] at h
  injection h with h1 h2
  exact ⟨hj, by rw [List.getD_eq_getElem?_getD, List.getElem?_eq_getElem hj]; exact h1, h2⟩
theorem range_snoc {α : Type} (g : Nat → α) (j : Nat) (P : List α) : P ++ (List.range (j + 1)).map g = (P ++ (List.range j).map g) ++ [g j] := by
  rw [List.range_succ, List.map_append, List.append_assoc]
  rfl
/-- In the middle of a run. -/
def imI (m : List Ru) (k : Nat) (P : List It) (r : Ru) (n : Nat) (st : St) : Prop := ∃ (j pos f : Nat), n = r.text.size - pos ∧ j ≤ (chOf r).length ∧ pos ≤ r.text.size ∧ r.text.size - pos ≤ f ∧ charsR r.text f pos = some ((chOf r).drop j) ∧
  st = ⟨42, 0, [(3, .c (.row 0)), (5, .c (.own 1 0)), (6, .c (.own 2 0)), (7, .c (.own 3 0)), (10, ruS m), (11, vci .i64 m.length), (12, vci .i64 (k : Int)), (22, .c (.own 4 0))],
    [itRow (P ++ (List.range j).map (itAt r (chOf r))), some (.cells 49 (ruF r)), some (.cells 47 [vu r.id.1, vu (clk r.id.2 j)]), some (.cells 47 (idF (leftAt r j))), some (.iter r.text pos)]⟩
theorem items_c (m : List Ru) (hm : m.length ≤ 100000) (hok : ∀ x, x ∈ m → ruOk x ∧ (charsF x.text).isSome = true) : CallV Tryd.prog 36 [ruS m] [] (fun r own' => own' = [] ∧ r = itS (itemsR m)) := by
  refine callV_pure Tryd.func36 rfl ttok ftok rfl rfl rfl (Nat.le_of_ble_eq_true rfl) ?_
  conv => whnf
  refine loopV ttok ftok (imO m) ((nil_row 3 56 7 (fun k => itF (([] : List It).getD k it0)) rfl).trans (norm_weak [3, 10, 11, 12] [some 0] rfl rfl)) ⟨0, rfl, Nat.zero_le _, rfl⟩ ?_
  rintro n st ⟨k, rfl, hk, rfl⟩
  have e1 : IntKind.i64.wrap ((k : Int) + 1) = ((k + 1 : Nat) : Int) := by rw [w_i64 (by omega) (by omega)]; omega
  conv => whnf
  refine onB_intro (fun h => ?_) (fun h => ?_)
  · have h := of_decide_eq_true h
    have hk2 : k < m.length := by omega
    conv => whnf
    refine ⟨⟨by omega, by omega⟩, ?_⟩
    conv => whnf
    simp only [ti_nat]
    obtain ⟨r, hr⟩ : ∃ r, m.getD k ru0 = r := ⟨_, rfl⟩
    rw [hr]
    refine drawV_cut ⟨42, 0, [(3, .c (.row 0)), (5, .c (.own 1 0)), (6, .c (.own 2 0)), (7, .c (.own 3 0)), (10, ruS m), (11, vci .i64 m.length), (12, vci .i64 (k : Int))], [itRow (itemsR (m.take k)), some (.cells 49 (ruF r)), some (.cells 47 (idF r.id)), some (.cells 47 (idF r.left))]⟩ ?_ ?_
    · refine drawV_sched (.rd 0 (.rd 1 (.rd 2 (.rd 3 (.alt (.ef 4 (.ef 5 (.ef 6 (.ef 7 (.nil))))) (.ef 5 (.ef 4 (.ef 6 (.ef 7 (.nil)))))))))) [2, 3] mixed (by kernel_rfl) ttok ftok ?_
      conv => whnf
      refine ⟨?_, ?_⟩
      · conv => whnf
        exact norm_weak [3, 5, 6, 7, 10, 11, 12] [some 0, some 1, some 2, some 3] rfl rfl
      · conv => whnf
        exact norm_weak [3, 5, 6, 7, 10, 11, 12] [some 0, some 1, some 3, some 2] rfl rfl
    conv => whnf
    have hmem : r ∈ m := by rw [← hr, List.getD_eq_getElem?_getD, List.getElem?_eq_getElem hk2]; exact List.getElem_mem hk2
    obtain ⟨⟨hid, hlf, hrt, hsz⟩, hch⟩ := hok r hmem
    obtain ⟨L, hL⟩ : ∃ L, charsF r.text = some L := Option.isSome_iff_exists.1 hch
    have hLc : chOf r = L := by unfold chOf; rw [hL]; rfl
    have hP : (itemsR (m.take k)).length ≤ 100000 * 1048576 := by
      have := itemsR_len 1048576 (m.take k) (fun x hx => (hok x (List.mem_of_mem_take hx)).1.2.2.2)
      rw [List.length_take] at this
      refine Nat.le_trans this (Nat.mul_le_mul_right _ (by omega))
    have hcl := chOf_len r
    generalize hPP : itemsR (m.take k) = P at hP
    refine loopV ttok ftok (imI m k P r) (norm_weak [3, 5, 6, 7, 10, 11, 12, 22] [some 0, some 1, some 2, some 3, some 4] rfl rfl) ⟨0, 0, r.text.size, rfl, Nat.zero_le _, Nat.zero_le _, by omega, by rw [hLc, List.drop_zero]; exact hL, ?_⟩ ?_
    · rw [clk_0 hid.2]
      simp only [List.range_zero, List.map_nil, List.append_nil]
      rfl
    rintro n st ⟨j, pos, f, rfl, hj, hpos, hf, hrest, rfl⟩
    conv => whnf
    by_cases hlt : pos < r.text.size
    · obtain ⟨v, nn, l', g, hd, rfl, hdec, hfit, hn1, hv0, hval, hnext⟩ := chars_step hf hrest hlt
      obtain ⟨hjl, hgd, hdr⟩ := drop_head (d := 0) hd
      have hvr := valid_inv hval
      rw [decide_eq_true hlt, hdec]
      conv => whnf
      refine ⟨fun _ => itF (itAt r (chOf r) j), fun i hi => ?_, ?_⟩
      · obtain rfl : i = 0 := by omega
        show itF (itAt r (chOf r) j) = [vu r.id.1, vu (clk r.id.2 j), vu (leftAt r j).1, vu (leftAt r j).2, vu r.right.1, vu r.right.2, vr ((v.toNat : Nat) : Int)]
        rw [Int.toNat_of_nonneg hv0, ← hgd]
        rfl
      conv => whnf
      have hlen : (P ++ (List.range j).map (itAt r (chOf r))).length = P.length + j := by simp
      refine ⟨⟨by rw [hlen]; omega, by simp only [hlen, show ti56.bytes = 28 from rfl]; omega⟩, ?_⟩
      conv => whnf
      refine app1 (enc := itF) (d := it0) (itAt r (chOf r) j) (fun k hk => rfl) rfl ?_
      conv => whnf
      rw [clk_s, ← range_snoc]
      refine ⟨r.text.size - (pos + nn), _, by omega, norm_weak [3, 5, 6, 7, 10, 11, 12, 22] [some 6, some 1, some 2, some 3, some 4] rfl rfl, j + 1, pos + nn, g, rfl, by omega, by omega, by omega, by rw [hdr]; exact hnext, ?_⟩
      rfl
    · have hnil := chars_end hrest hlt
      have hjl : j = (chOf r).length := by
        have := congrArg List.length hnil
        rw [List.length_drop] at this
        simp at this
        omega
      rw [decide_eq_false hlt]
      conv => whnf
      rw [e1]
      refine ⟨m.length - (k + 1), _, by omega, norm_weak [3, 10, 11, 12] [some 0] rfl rfl, k + 1, rfl, by omega, ?_⟩
      rw [take_snoc hk2 (d := ru0), hr, itemsR_snoc, hPP, hjl]
      rfl
  · have h := of_decide_eq_false h
    obtain rfl : k = m.length := by omega
    rw [List.take_length]
    conv => whnf
    refine ⟨fun j hj => rfl, ?_⟩
    conv => whnf
    try rfl
end Go.Eng
/- Runs' items, as the reference tells them. -/
set_option linter.unusedVariables false
set_option linter.unusedSimpArgs false
set_option maxRecDepth 100000
set_option maxHeartbeats 4000000
namespace Go.Eng
open Go Go.RowKit Go.Proofs
def rmO (m : List Ru) (n : Nat) (st : St) : Prop := ∃ (k : Nat), n = m.length - k ∧ k ≤ m.length ∧ st = ⟨69, 0, [(0, ruS m), (3, .c (.row 0)), (4, vci .i64 (k : Int))], [itRow (itemsR (m.take k))]⟩
def rmI (m : List Ru) (k : Nat) (P : List It) (r : Ru) (n : Nat) (st : St) : Prop := ∃ (j : Nat), n = (chOf r).length - j ∧ j ≤ (chOf r).length ∧
  st = ⟨69, 0, [(0, ruS m), (3, .c (.row 0)), (4, vci .i64 (k : Int)), (5, rns (chOf r)), (7, .c (.own 1 0)), (8, vci .i64 (j : Int))], [itRow (P ++ (List.range j).map (itAt r (chOf r))), some (.cells 47 (idF (leftAt r j)))]⟩
theorem ritems_c (m : List Ru) (hm : m.length ≤ 100000) (hok : ∀ x, x ∈ m → ruOk x ∧ (charsF x.text).isSome = true) : CallV Tryd.prog 18 [ruS m] [] (fun r own' => own' = [] ∧ r = itS (itemsR m)) := by
  refine callV_pure Tryd.func18 rfl ttok ftok rfl rfl rfl (Nat.le_of_ble_eq_true rfl) ?_
  conv => whnf
  refine loopV ttok ftok (rmO m) ((nil_row 3 56 7 (fun k => itF (([] : List It).getD k it0)) rfl).trans (norm_weak [0, 3, 4] [some 0] rfl rfl)) ⟨0, rfl, Nat.zero_le _, rfl⟩ ?_
  rintro n st ⟨k, rfl, hk, rfl⟩
  have e1 : IntKind.i64.wrap ((k : Int) + 1) = ((k + 1 : Nat) : Int) := by rw [w_i64 (by omega) (by omega)]; omega
  conv => whnf
  refine onB_intro (fun h => ?_) (fun h => ?_)
  · have h := of_decide_eq_true h
    have hk2 : k < m.length := by omega
    conv => whnf
    refine ⟨⟨by omega, by omega⟩, ?_⟩
    conv => whnf
    simp only [ti_nat]
    obtain ⟨r, hr⟩ : ∃ r, m.getD k ru0 = r := ⟨_, rfl⟩
    have hmem : r ∈ m := by rw [← hr, List.getD_eq_getElem?_getD, List.getElem?_eq_getElem hk2]; exact List.getElem_mem hk2
    obtain ⟨⟨hid, hlf, hrt, hsz⟩, hch⟩ := hok r hmem
    obtain ⟨L, hL⟩ : ∃ L, charsF r.text = some L := Option.isSome_iff_exists.1 hch
    have hLc : chOf r = L := by unfold chOf; rw [hL]; rfl
    have hP : (itemsR (m.take k)).length ≤ 100000 * 1048576 := by
      have := itemsR_len 1048576 (m.take k) (fun x hx => (hok x (List.mem_of_mem_take hx)).1.2.2.2)
      rw [List.length_take] at this
      refine Nat.le_trans this (Nat.mul_le_mul_right _ (by omega))
    have hcl := chOf_len r
    generalize hPP : itemsR (m.take k) = P at hP
    rw [hr]
    refine call_pure (chars_c r.text (by omega)) rfl ?_
    rintro _ rfl
    unfold charsV
    rw [hL, ← hLc]
    conv => whnf
    refine ⟨⟨by omega, by omega⟩, ?_⟩
    conv => whnf
    simp only [ti_nat, hr]
    conv => whnf
    refine loopV ttok ftok (rmI m k P r) (norm_weak [0, 3, 4, 5, 7, 8] [some 0, some 1] rfl rfl) ⟨0, rfl, Nat.zero_le _, ?_⟩ ?_
    · simp only [List.range_zero, List.map_nil, List.append_nil]
      rfl
    rintro n st ⟨j, rfl, hj, rfl⟩
    have e2 : IntKind.i64.wrap ((j : Int) + 1) = ((j + 1 : Nat) : Int) := by rw [w_i64 (by omega) (by omega)]; omega
    conv => whnf
    refine onB_intro (fun g => ?_) (fun g => ?_)
    · have g := of_decide_eq_true g
      have hj2 : j < (chOf r).length := by omega
      conv => whnf
      refine drawV_sched (.rd 0 (.rd 1 (.rd 2 (.rd 3 (.rd 4 (.rd 5 (.rd 6 (.rd 7 (.rd 8 (.rd 9 (.rd 10 (.rd 11 (.rd 12 (.rd 13 (.rd 14 (.rd 15 (.ef 16 (.ef 17 (.nil))))))))))))))))))) [2] mixed (by kernel_rfl) ttok ftok ?_
      conv => whnf
      refine ⟨⟨by omega, by omega⟩, ?_⟩
      conv => whnf
      refine ⟨⟨by omega, by omega⟩, ?_⟩
      conv => whnf
      simp only [ti_nat, hr]
      rw [show IntKind.u32.wrap (r.id.2 + IntKind.u32.wrap (j : Int)) = clk r.id.2 j from by simp only [w_u32]; unfold clk; omega]
      conv => whnf
      refine drawV_sched (.rd 0 (.rd 1 (.rd 2 (.rd 3 (.rd 4 (.rd 5 (.rd 6 (.rd 7 (.rd 8 (.rd 9 (.rd 10 (.rd 11 (.rd 12 (.ef 13 (.ef 14 (.rd 15 (.nil))))))))))))))))) [0, 3] mixed (by kernel_rfl) ttok ftok ?_
      conv => whnf
      refine ⟨⟨by omega, by omega⟩, ?_⟩
      conv => whnf
      refine ⟨⟨by omega, by omega⟩, ?_⟩
      conv => whnf
      simp only [ti_nat, hr]
      refine ⟨fun _ => itF (itAt r (chOf r) j), one_at _, ?_⟩
      conv => whnf
      have hlen : (P ++ (List.range j).map (itAt r (chOf r))).length = P.length + j := by simp
      refine ⟨⟨by rw [hlen]; omega, by simp only [hlen, show ti56.bytes = 28 from rfl]; omega⟩, ?_⟩
      conv => whnf
      refine app1 (enc := itF) (d := it0) (itAt r (chOf r) j) (fun k hk => rfl) rfl ?_
      conv => whnf
      rw [e2, ← range_snoc]
      refine ⟨(chOf r).length - (j + 1), _, by omega, norm_weak [0, 3, 4, 5, 7, 8] [some 4, some 1] rfl rfl, j + 1, rfl, by omega, ?_⟩
      rfl
    · have g := of_decide_eq_false g
      obtain rfl : j = (chOf r).length := by omega
      conv => whnf
      rw [e1]
      refine ⟨m.length - (k + 1), _, by omega, norm_weak [0, 3, 4] [some 0] rfl rfl, k + 1, rfl, by omega, ?_⟩
      rw [take_snoc hk2 (d := ru0), hr, itemsR_snoc, hPP]
      rfl
  · have h := of_decide_eq_false h
    obtain rfl : k = m.length := by omega
    rw [List.take_length]
    conv => whnf
    refine ⟨fun j hj => rfl, ?_⟩
    conv => whnf
    try rfl
end Go.Eng
