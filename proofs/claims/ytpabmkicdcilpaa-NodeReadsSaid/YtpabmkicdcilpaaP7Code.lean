/- The abstract code of the functions that the laws reach, as a program printed it; each is what the compiler makes of the given function. -/
import Derived.Test.YtpabmkicdcilpaaP7Ca
import Derived.Test.YtpabmkicdcilpaaP7Cb
import Derived.Test.YtpabmkicdcilpaaRows
namespace Go.Proofs.Ytpabmkicdcilpaa
open Go.Vm
/- rows -/
def table : Nat → Option AFunc
  | 3 => some a3
  | 8 => some a8
  | 5 => some a5
  | 12 => some a12
  | 13 => some a13
  | 14 => some a14
  | 15 => some a15
  | 16 => some a16
  | 17 => some a17
  | 18 => some a18
  | 19 => some a19
  | 22 => some a22
  | 27 => some a27
  | 30 => some a30
  | 25 => some a25
  | 21 => some a21
  | 29 => some a29
  | 24 => some a24
  | 23 => some a23
  | 26 => some a26
  | 28 => some a28
  | 49 => some a49
  | 43 => some a43
  | 44 => some a44
  | 45 => some a45
  | 46 => some a46
  | 47 => some a47
  | 48 => some a48
  | 38 => some a38
  | 50 => some a50
  | 51 => some a51
  | 52 => some a52
  | 33 => some a33
  | 34 => some a34
  | 35 => some a35
  | 36 => some a36
  | 37 => some a37
  | 39 => some a39
  | 40 => some a40
  | 53 => some a53
  | 54 => some a54
  | 55 => some a55
  | 56 => some a56
  | 57 => some a57
  | 58 => some a58
  | 59 => some a59
  | 60 => some a60
  | 61 => some a61
  | 62 => some a62
  | 63 => some a63
  | 64 => some a64
  | 65 => some a65
  | 69 => some a69
  | 75 => some a75
  | 76 => some a76
  | 70 => some a70
  | 71 => some a71
  | 72 => some a72
  | 73 => some a73
  | 74 => some a74
  | 68 => some a68
  | 67 => some a67
  | 77 => some a77
  | 66 => some a66
  | 78 => some a78
  | 79 => some a79
  | 80 => some a80
  | 81 => some a81
  | 83 => some a83
  | 85 => some a85
  | 86 => some a86
  | 87 => some a87
  | 89 => some a89
  | 90 => some a90
  | 91 => some a91
  | 88 => some a88
  | 92 => some a92
  | 93 => some a93
  | 94 => some a94
  | 95 => some a95
  | 96 => some a96
  | 97 => some a97
  | 98 => some a98
  | 99 => some a99
  | 100 => some a100
  | _ => none
theorem k3 : cFunc Try.prog Try.f3 = some a3 := by kernel_rfl
theorem k8 : cFunc Try.prog Try.f8 = some a8 := by kernel_rfl
theorem k5 : cFunc Try.prog Try.f5 = some a5 := by kernel_rfl
theorem k12 : cFunc Try.prog Try.f12 = some a12 := by kernel_rfl
theorem k13 : cFunc Try.prog Try.f13 = some a13 := by kernel_rfl
theorem k14 : cFunc Try.prog Try.f14 = some a14 := by kernel_rfl
theorem k15 : cFunc Try.prog Try.f15 = some a15 := by kernel_rfl
theorem k16 : cFunc Try.prog Try.f16 = some a16 := by kernel_rfl
theorem k17 : cFunc Try.prog Try.f17 = some a17 := by kernel_rfl
theorem k18 : cFunc Try.prog Try.f18 = some a18 := by kernel_rfl
theorem k19 : cFunc Try.prog Try.f19 = some a19 := by kernel_rfl
theorem k22 : cFunc Try.prog Try.f22 = some a22 := by kernel_rfl
theorem k27 : cFunc Try.prog Try.f27 = some a27 := by kernel_rfl
theorem k30 : cFunc Try.prog Try.f30 = some a30 := by kernel_rfl
theorem k25 : cFunc Try.prog Try.f25 = some a25 := by kernel_rfl
theorem k21 : cFunc Try.prog Try.f21 = some a21 := by kernel_rfl
theorem k29 : cFunc Try.prog Try.f29 = some a29 := by kernel_rfl
theorem k24 : cFunc Try.prog Try.f24 = some a24 := by kernel_rfl
theorem k23 : cFunc Try.prog Try.f23 = some a23 := by kernel_rfl
theorem k26 : cFunc Try.prog Try.f26 = some a26 := by kernel_rfl
theorem k28 : cFunc Try.prog Try.f28 = some a28 := by kernel_rfl
theorem k49 : cFunc Try.prog Try.f49 = some a49 := by kernel_rfl
theorem k43 : cFunc Try.prog Try.f43 = some a43 := by kernel_rfl
theorem k44 : cFunc Try.prog Try.f44 = some a44 := by kernel_rfl
theorem k45 : cFunc Try.prog Try.f45 = some a45 := by kernel_rfl
theorem k46 : cFunc Try.prog Try.f46 = some a46 := by kernel_rfl
theorem k47 : cFunc Try.prog Try.f47 = some a47 := by kernel_rfl
theorem k48 : cFunc Try.prog Try.f48 = some a48 := by kernel_rfl
theorem k38 : cFunc Try.prog Try.f38 = some a38 := by kernel_rfl
theorem k50 : cFunc Try.prog Try.f50 = some a50 := by kernel_rfl
theorem k51 : cFunc Try.prog Try.f51 = some a51 := by kernel_rfl
theorem k52 : cFunc Try.prog Try.f52 = some a52 := by kernel_rfl
theorem k33 : cFunc Try.prog Try.f33 = some a33 := by kernel_rfl
theorem k34 : cFunc Try.prog Try.f34 = some a34 := by kernel_rfl
theorem k35 : cFunc Try.prog Try.f35 = some a35 := by kernel_rfl
theorem k36 : cFunc Try.prog Try.f36 = some a36 := by kernel_rfl
theorem k37 : cFunc Try.prog Try.f37 = some a37 := by kernel_rfl
theorem k39 : cFunc Try.prog Try.f39 = some a39 := by kernel_rfl
theorem k40 : cFunc Try.prog Try.f40 = some a40 := by kernel_rfl
theorem k53 : cFunc Try.prog Try.f53 = some a53 := by kernel_rfl
theorem k54 : cFunc Try.prog Try.f54 = some a54 := by kernel_rfl
theorem k55 : cFunc Try.prog Try.f55 = some a55 := by kernel_rfl
theorem k56 : cFunc Try.prog Try.f56 = some a56 := by kernel_rfl
theorem k57 : cFunc Try.prog Try.f57 = some a57 := by kernel_rfl
theorem k58 : cFunc Try.prog Try.f58 = some a58 := by kernel_rfl
theorem k59 : cFunc Try.prog Try.f59 = some a59 := by kernel_rfl
theorem k60 : cFunc Try.prog Try.f60 = some a60 := by kernel_rfl
theorem k61 : cFunc Try.prog Try.f61 = some a61 := by kernel_rfl
theorem k62 : cFunc Try.prog Try.f62 = some a62 := by kernel_rfl
theorem k63 : cFunc Try.prog Try.f63 = some a63 := by kernel_rfl
theorem k64 : cFunc Try.prog Try.f64 = some a64 := by kernel_rfl
theorem k65 : cFunc Try.prog Try.f65 = some a65 := by kernel_rfl
theorem k69 : cFunc Try.prog Try.f69 = some a69 := by kernel_rfl
theorem k75 : cFunc Try.prog Try.f75 = some a75 := by kernel_rfl
theorem k76 : cFunc Try.prog Try.f76 = some a76 := by kernel_rfl
theorem k70 : cFunc Try.prog Try.f70 = some a70 := by kernel_rfl
theorem k71 : cFunc Try.prog Try.f71 = some a71 := by kernel_rfl
theorem k72 : cFunc Try.prog Try.f72 = some a72 := by kernel_rfl
theorem k73 : cFunc Try.prog Try.f73 = some a73 := by kernel_rfl
theorem k74 : cFunc Try.prog Try.f74 = some a74 := by kernel_rfl
theorem k68 : cFunc Try.prog Try.f68 = some a68 := by kernel_rfl
theorem k67 : cFunc Try.prog Try.f67 = some a67 := by kernel_rfl
theorem k77 : cFunc Try.prog Try.f77 = some a77 := by kernel_rfl
theorem k66 : cFunc Try.prog Try.f66 = some a66 := by kernel_rfl
theorem k78 : cFunc Try.prog Try.f78 = some a78 := by kernel_rfl
theorem k79 : cFunc Try.prog Try.f79 = some a79 := by kernel_rfl
theorem k80 : cFunc Try.prog Try.f80 = some a80 := by kernel_rfl
theorem k81 : cFunc Try.prog Try.f81 = some a81 := by kernel_rfl
theorem k83 : cFunc Try.prog Try.f83 = some a83 := by kernel_rfl
theorem k85 : cFunc Try.prog Try.f85 = some a85 := by kernel_rfl
theorem k86 : cFunc Try.prog Try.f86 = some a86 := by kernel_rfl
theorem k87 : cFunc Try.prog Try.f87 = some a87 := by kernel_rfl
theorem k89 : cFunc Try.prog Try.f89 = some a89 := by kernel_rfl
theorem k90 : cFunc Try.prog Try.f90 = some a90 := by kernel_rfl
theorem k91 : cFunc Try.prog Try.f91 = some a91 := by kernel_rfl
theorem k88 : cFunc Try.prog Try.f88 = some a88 := by kernel_rfl
theorem k92 : cFunc Try.prog Try.f92 = some a92 := by kernel_rfl
theorem k93 : cFunc Try.prog Try.f93 = some a93 := by kernel_rfl
theorem k94 : cFunc Try.prog Try.f94 = some a94 := by kernel_rfl
theorem k95 : cFunc Try.prog Try.f95 = some a95 := by kernel_rfl
theorem k96 : cFunc Try.prog Try.f96 = some a96 := by kernel_rfl
theorem k97 : cFunc Try.prog Try.f97 = some a97 := by kernel_rfl
theorem k98 : cFunc Try.prog Try.f98 = some a98 := by kernel_rfl
theorem k99 : cFunc Try.prog Try.f99 = some a99 := by kernel_rfl
theorem k100 : cFunc Try.prog Try.f100 = some a100 := by kernel_rfl
theorem table_ok : ∀ g af, table g = some af → ∃ fn, Try.prog.funcs[g]? = some fn ∧ cFunc Try.prog fn = some af := by
  intro g af h
  unfold table at h
  split at h
  · cases h; exact ⟨Try.f3, Try.func3, k3⟩
  · cases h; exact ⟨Try.f8, Try.func8, k8⟩
  · cases h; exact ⟨Try.f5, Try.func5, k5⟩
  · cases h; exact ⟨Try.f12, Try.func12, k12⟩
  · cases h; exact ⟨Try.f13, Try.func13, k13⟩
  · cases h; exact ⟨Try.f14, Try.func14, k14⟩
  · cases h; exact ⟨Try.f15, Try.func15, k15⟩
  · cases h; exact ⟨Try.f16, Try.func16, k16⟩
  · cases h; exact ⟨Try.f17, Try.func17, k17⟩
  · cases h; exact ⟨Try.f18, Try.func18, k18⟩
  · cases h; exact ⟨Try.f19, Try.func19, k19⟩
  · cases h; exact ⟨Try.f22, Try.func22, k22⟩
  · cases h; exact ⟨Try.f27, Try.func27, k27⟩
  · cases h; exact ⟨Try.f30, Try.func30, k30⟩
  · cases h; exact ⟨Try.f25, Try.func25, k25⟩
  · cases h; exact ⟨Try.f21, Try.func21, k21⟩
  · cases h; exact ⟨Try.f29, Try.func29, k29⟩
  · cases h; exact ⟨Try.f24, Try.func24, k24⟩
  · cases h; exact ⟨Try.f23, Try.func23, k23⟩
  · cases h; exact ⟨Try.f26, Try.func26, k26⟩
  · cases h; exact ⟨Try.f28, Try.func28, k28⟩
  · cases h; exact ⟨Try.f49, Try.func49, k49⟩
  · cases h; exact ⟨Try.f43, Try.func43, k43⟩
  · cases h; exact ⟨Try.f44, Try.func44, k44⟩
  · cases h; exact ⟨Try.f45, Try.func45, k45⟩
  · cases h; exact ⟨Try.f46, Try.func46, k46⟩
  · cases h; exact ⟨Try.f47, Try.func47, k47⟩
  · cases h; exact ⟨Try.f48, Try.func48, k48⟩
  · cases h; exact ⟨Try.f38, Try.func38, k38⟩
  · cases h; exact ⟨Try.f50, Try.func50, k50⟩
  · cases h; exact ⟨Try.f51, Try.func51, k51⟩
  · cases h; exact ⟨Try.f52, Try.func52, k52⟩
  · cases h; exact ⟨Try.f33, Try.func33, k33⟩
  · cases h; exact ⟨Try.f34, Try.func34, k34⟩
  · cases h; exact ⟨Try.f35, Try.func35, k35⟩
  · cases h; exact ⟨Try.f36, Try.func36, k36⟩
  · cases h; exact ⟨Try.f37, Try.func37, k37⟩
  · cases h; exact ⟨Try.f39, Try.func39, k39⟩
  · cases h; exact ⟨Try.f40, Try.func40, k40⟩
  · cases h; exact ⟨Try.f53, Try.func53, k53⟩
  · cases h; exact ⟨Try.f54, Try.func54, k54⟩
  · cases h; exact ⟨Try.f55, Try.func55, k55⟩
  · cases h; exact ⟨Try.f56, Try.func56, k56⟩
  · cases h; exact ⟨Try.f57, Try.func57, k57⟩
  · cases h; exact ⟨Try.f58, Try.func58, k58⟩
  · cases h; exact ⟨Try.f59, Try.func59, k59⟩
  · cases h; exact ⟨Try.f60, Try.func60, k60⟩
  · cases h; exact ⟨Try.f61, Try.func61, k61⟩
  · cases h; exact ⟨Try.f62, Try.func62, k62⟩
  · cases h; exact ⟨Try.f63, Try.func63, k63⟩
  · cases h; exact ⟨Try.f64, Try.func64, k64⟩
  · cases h; exact ⟨Try.f65, Try.func65, k65⟩
  · cases h; exact ⟨Try.f69, Try.func69, k69⟩
  · cases h; exact ⟨Try.f75, Try.func75, k75⟩
  · cases h; exact ⟨Try.f76, Try.func76, k76⟩
  · cases h; exact ⟨Try.f70, Try.func70, k70⟩
  · cases h; exact ⟨Try.f71, Try.func71, k71⟩
  · cases h; exact ⟨Try.f72, Try.func72, k72⟩
  · cases h; exact ⟨Try.f73, Try.func73, k73⟩
  · cases h; exact ⟨Try.f74, Try.func74, k74⟩
  · cases h; exact ⟨Try.f68, Try.func68, k68⟩
  · cases h; exact ⟨Try.f67, Try.func67, k67⟩
  · cases h; exact ⟨Try.f77, Try.func77, k77⟩
  · cases h; exact ⟨Try.f66, Try.func66, k66⟩
  · cases h; exact ⟨Try.f78, Try.func78, k78⟩
  · cases h; exact ⟨Try.f79, Try.func79, k79⟩
  · cases h; exact ⟨Try.f80, Try.func80, k80⟩
  · cases h; exact ⟨Try.f81, Try.func81, k81⟩
  · cases h; exact ⟨Try.f83, Try.func83, k83⟩
  · cases h; exact ⟨Try.f85, Try.func85, k85⟩
  · cases h; exact ⟨Try.f86, Try.func86, k86⟩
  · cases h; exact ⟨Try.f87, Try.func87, k87⟩
  · cases h; exact ⟨Try.f89, Try.func89, k89⟩
  · cases h; exact ⟨Try.f90, Try.func90, k90⟩
  · cases h; exact ⟨Try.f91, Try.func91, k91⟩
  · cases h; exact ⟨Try.f88, Try.func88, k88⟩
  · cases h; exact ⟨Try.f92, Try.func92, k92⟩
  · cases h; exact ⟨Try.f93, Try.func93, k93⟩
  · cases h; exact ⟨Try.f94, Try.func94, k94⟩
  · cases h; exact ⟨Try.f95, Try.func95, k95⟩
  · cases h; exact ⟨Try.f96, Try.func96, k96⟩
  · cases h; exact ⟨Try.f97, Try.func97, k97⟩
  · cases h; exact ⟨Try.f98, Try.func98, k98⟩
  · cases h; exact ⟨Try.f99, Try.func99, k99⟩
  · cases h; exact ⟨Try.f100, Try.func100, k100⟩
  · cases h
end Go.Proofs.Ytpabmkicdcilpaa
