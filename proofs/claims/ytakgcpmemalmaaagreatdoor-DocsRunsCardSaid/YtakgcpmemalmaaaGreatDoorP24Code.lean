/- The table of the functions that the laws reach. -/
import Derived.Test.YtakgcpmemalmaaaGreatDoorP24Ca
import Derived.Test.YtakgcpmemalmaaaGreatDoorP24Cb
import Derived.Test.YtakgcpmemalmaaaGreatDoorP24Cc
import Derived.Test.YtakgcpmemalmaaaGreatDoorP24Cd
namespace Go.Proofs.YtakgcpmemalmaaaGreatDoor
open Go.Vm
set_option maxRecDepth 100000
def TabIs (f : Nat → Option AFunc) : Prop := ∀ g af,f g = some af → ∃ fn,Tryz.prog.funcs[g]? = some fn ∧ cFunc Tryz.prog fn = some af
theorem TabIs.pick {a b : Nat → Option AFunc} (ha : TabIs a) (hb : TabIs b) (m : Nat) : TabIs fun g => bif Nat.ble g m then a g else b g := fun g af h => by
  have h : (bif Nat.ble g m then a g else b g) = some af := h
  cases e : Nat.ble g m
  · rw [e] at h; exact hb g af h
  · rw [e] at h; exact ha g af h
def tab0 : Nat → Option AFunc
  | 3 => some a3
  | 9 => some a9
  | 12 => some a12
  | 13 => some a13
  | 14 => some a14
  | 15 => some a15
  | 16 => some a16
  | 17 => some a17
  | 18 => some a18
  | 19 => some a19
  | 20 => some a20
  | 21 => some a21
  | 22 => some a22
  | 24 => some a24
  | 25 => some a25
  | 26 => some a26
  | 27 => some a27
  | 28 => some a28
  | 30 => some a30
  | 33 => some a33
  | 37 => some a37
  | 40 => some a40
  | 42 => some a42
  | 44 => some a44
  | 45 => some a45
  | 46 => some a46
  | 47 => some a47
  | 48 => some a48
  | 49 => some a49
  | 50 => some a50
  | 51 => some a51
  | 52 => some a52
  | _ => none
theorem tab0_ok : TabIs tab0 := by
  intro g af h
  unfold tab0 at h
  split at h
  · cases h; exact ⟨Tryz.f3, Tryz.func3, k3⟩
  · cases h; exact ⟨Tryz.f9, Tryz.func9, k9⟩
  · cases h; exact ⟨Tryz.f12, Tryz.func12, k12⟩
  · cases h; exact ⟨Tryz.f13, Tryz.func13, k13⟩
  · cases h; exact ⟨Tryz.f14, Tryz.func14, k14⟩
  · cases h; exact ⟨Tryz.f15, Tryz.func15, k15⟩
  · cases h; exact ⟨Tryz.f16, Tryz.func16, k16⟩
  · cases h; exact ⟨Tryz.f17, Tryz.func17, k17⟩
  · cases h; exact ⟨Tryz.f18, Tryz.func18, k18⟩
  · cases h; exact ⟨Tryz.f19, Tryz.func19, k19⟩
  · cases h; exact ⟨Tryz.f20, Tryz.func20, k20⟩
  · cases h; exact ⟨Tryz.f21, Tryz.func21, k21⟩
  · cases h; exact ⟨Tryz.f22, Tryz.func22, k22⟩
  · cases h; exact ⟨Tryz.f24, Tryz.func24, k24⟩
  · cases h; exact ⟨Tryz.f25, Tryz.func25, k25⟩
  · cases h; exact ⟨Tryz.f26, Tryz.func26, k26⟩
  · cases h; exact ⟨Tryz.f27, Tryz.func27, k27⟩
  · cases h; exact ⟨Tryz.f28, Tryz.func28, k28⟩
  · cases h; exact ⟨Tryz.f30, Tryz.func30, k30⟩
  · cases h; exact ⟨Tryz.f33, Tryz.func33, k33⟩
  · cases h; exact ⟨Tryz.f37, Tryz.func37, k37⟩
  · cases h; exact ⟨Tryz.f40, Tryz.func40, k40⟩
  · cases h; exact ⟨Tryz.f42, Tryz.func42, k42⟩
  · cases h; exact ⟨Tryz.f44, Tryz.func44, k44⟩
  · cases h; exact ⟨Tryz.f45, Tryz.func45, k45⟩
  · cases h; exact ⟨Tryz.f46, Tryz.func46, k46⟩
  · cases h; exact ⟨Tryz.f47, Tryz.func47, k47⟩
  · cases h; exact ⟨Tryz.f48, Tryz.func48, k48⟩
  · cases h; exact ⟨Tryz.f49, Tryz.func49, k49⟩
  · cases h; exact ⟨Tryz.f50, Tryz.func50, k50⟩
  · cases h; exact ⟨Tryz.f51, Tryz.func51, k51⟩
  · cases h; exact ⟨Tryz.f52, Tryz.func52, k52⟩
  · cases h
def tab1 : Nat → Option AFunc
  | 53 => some a53
  | 54 => some a54
  | 55 => some a55
  | 56 => some a56
  | 57 => some a57
  | 58 => some a58
  | 59 => some a59
  | 60 => some a60
  | 61 => some a61
  | 62 => some a62
  | 64 => some a64
  | 65 => some a65
  | 66 => some a66
  | 67 => some a67
  | 68 => some a68
  | 69 => some a69
  | 70 => some a70
  | 71 => some a71
  | 72 => some a72
  | 78 => some a78
  | 81 => some a81
  | 82 => some a82
  | 83 => some a83
  | 84 => some a84
  | 85 => some a85
  | 86 => some a86
  | 87 => some a87
  | 88 => some a88
  | 89 => some a89
  | 90 => some a90
  | 91 => some a91
  | 92 => some a92
  | _ => none
theorem tab1_ok : TabIs tab1 := by
  intro g af h
  unfold tab1 at h
  split at h
  · cases h; exact ⟨Tryz.f53, Tryz.func53, k53⟩
  · cases h; exact ⟨Tryz.f54, Tryz.func54, k54⟩
  · cases h; exact ⟨Tryz.f55, Tryz.func55, k55⟩
  · cases h; exact ⟨Tryz.f56, Tryz.func56, k56⟩
  · cases h; exact ⟨Tryz.f57, Tryz.func57, k57⟩
  · cases h; exact ⟨Tryz.f58, Tryz.func58, k58⟩
  · cases h; exact ⟨Tryz.f59, Tryz.func59, k59⟩
  · cases h; exact ⟨Tryz.f60, Tryz.func60, k60⟩
  · cases h; exact ⟨Tryz.f61, Tryz.func61, k61⟩
  · cases h; exact ⟨Tryz.f62, Tryz.func62, k62⟩
  · cases h; exact ⟨Tryz.f64, Tryz.func64, k64⟩
  · cases h; exact ⟨Tryz.f65, Tryz.func65, k65⟩
  · cases h; exact ⟨Tryz.f66, Tryz.func66, k66⟩
  · cases h; exact ⟨Tryz.f67, Tryz.func67, k67⟩
  · cases h; exact ⟨Tryz.f68, Tryz.func68, k68⟩
  · cases h; exact ⟨Tryz.f69, Tryz.func69, k69⟩
  · cases h; exact ⟨Tryz.f70, Tryz.func70, k70⟩
  · cases h; exact ⟨Tryz.f71, Tryz.func71, k71⟩
  · cases h; exact ⟨Tryz.f72, Tryz.func72, k72⟩
  · cases h; exact ⟨Tryz.f78, Tryz.func78, k78⟩
  · cases h; exact ⟨Tryz.f81, Tryz.func81, k81⟩
  · cases h; exact ⟨Tryz.f82, Tryz.func82, k82⟩
  · cases h; exact ⟨Tryz.f83, Tryz.func83, k83⟩
  · cases h; exact ⟨Tryz.f84, Tryz.func84, k84⟩
  · cases h; exact ⟨Tryz.f85, Tryz.func85, k85⟩
  · cases h; exact ⟨Tryz.f86, Tryz.func86, k86⟩
  · cases h; exact ⟨Tryz.f87, Tryz.func87, k87⟩
  · cases h; exact ⟨Tryz.f88, Tryz.func88, k88⟩
  · cases h; exact ⟨Tryz.f89, Tryz.func89, k89⟩
  · cases h; exact ⟨Tryz.f90, Tryz.func90, k90⟩
  · cases h; exact ⟨Tryz.f91, Tryz.func91, k91⟩
  · cases h; exact ⟨Tryz.f92, Tryz.func92, k92⟩
  · cases h
def tab2 : Nat → Option AFunc
  | 93 => some a93
  | 96 => some a96
  | 97 => some a97
  | 98 => some a98
  | 99 => some a99
  | 100 => some a100
  | 101 => some a101
  | 102 => some a102
  | 103 => some a103
  | 104 => some a104
  | 105 => some a105
  | 106 => some a106
  | 107 => some a107
  | 108 => some a108
  | 109 => some a109
  | 110 => some a110
  | 111 => some a111
  | 112 => some a112
  | 113 => some a113
  | 114 => some a114
  | 115 => some a115
  | 116 => some a116
  | 118 => some a118
  | 123 => some a123
  | 124 => some a124
  | 125 => some a125
  | 126 => some a126
  | 127 => some a127
  | 128 => some a128
  | 129 => some a129
  | 131 => some a131
  | 132 => some a132
  | _ => none
theorem tab2_ok : TabIs tab2 := by
  intro g af h
  unfold tab2 at h
  split at h
  · cases h; exact ⟨Tryz.f93, Tryz.func93, k93⟩
  · cases h; exact ⟨Tryz.f96, Tryz.func96, k96⟩
  · cases h; exact ⟨Tryz.f97, Tryz.func97, k97⟩
  · cases h; exact ⟨Tryz.f98, Tryz.func98, k98⟩
  · cases h; exact ⟨Tryz.f99, Tryz.func99, k99⟩
  · cases h; exact ⟨Tryz.f100, Tryz.func100, k100⟩
  · cases h; exact ⟨Tryz.f101, Tryz.func101, k101⟩
  · cases h; exact ⟨Tryz.f102, Tryz.func102, k102⟩
  · cases h; exact ⟨Tryz.f103, Tryz.func103, k103⟩
  · cases h; exact ⟨Tryz.f104, Tryz.func104, k104⟩
  · cases h; exact ⟨Tryz.f105, Tryz.func105, k105⟩
  · cases h; exact ⟨Tryz.f106, Tryz.func106, k106⟩
  · cases h; exact ⟨Tryz.f107, Tryz.func107, k107⟩
  · cases h; exact ⟨Tryz.f108, Tryz.func108, k108⟩
  · cases h; exact ⟨Tryz.f109, Tryz.func109, k109⟩
  · cases h; exact ⟨Tryz.f110, Tryz.func110, k110⟩
  · cases h; exact ⟨Tryz.f111, Tryz.func111, k111⟩
  · cases h; exact ⟨Tryz.f112, Tryz.func112, k112⟩
  · cases h; exact ⟨Tryz.f113, Tryz.func113, k113⟩
  · cases h; exact ⟨Tryz.f114, Tryz.func114, k114⟩
  · cases h; exact ⟨Tryz.f115, Tryz.func115, k115⟩
  · cases h; exact ⟨Tryz.f116, Tryz.func116, k116⟩
  · cases h; exact ⟨Tryz.f118, Tryz.func118, k118⟩
  · cases h; exact ⟨Tryz.f123, Tryz.func123, k123⟩
  · cases h; exact ⟨Tryz.f124, Tryz.func124, k124⟩
  · cases h; exact ⟨Tryz.f125, Tryz.func125, k125⟩
  · cases h; exact ⟨Tryz.f126, Tryz.func126, k126⟩
  · cases h; exact ⟨Tryz.f127, Tryz.func127, k127⟩
  · cases h; exact ⟨Tryz.f128, Tryz.func128, k128⟩
  · cases h; exact ⟨Tryz.f129, Tryz.func129, k129⟩
  · cases h; exact ⟨Tryz.f131, Tryz.func131, k131⟩
  · cases h; exact ⟨Tryz.f132, Tryz.func132, k132⟩
  · cases h
def tab3 : Nat → Option AFunc
  | 133 => some a133
  | 134 => some a134
  | 135 => some a135
  | 136 => some a136
  | 137 => some a137
  | 138 => some a138
  | 139 => some a139
  | 140 => some a140
  | 141 => some a141
  | 142 => some a142
  | 143 => some a143
  | 144 => some a144
  | 146 => some a146
  | 147 => some a147
  | 148 => some a148
  | 149 => some a149
  | 150 => some a150
  | 151 => some a151
  | 152 => some a152
  | 153 => some a153
  | 154 => some a154
  | 155 => some a155
  | 156 => some a156
  | 157 => some a157
  | 158 => some a158
  | 159 => some a159
  | 160 => some a160
  | 161 => some a161
  | 162 => some a162
  | 163 => some a163
  | 164 => some a164
  | 165 => some a165
  | _ => none
theorem tab3_ok : TabIs tab3 := by
  intro g af h
  unfold tab3 at h
  split at h
  · cases h; exact ⟨Tryz.f133, Tryz.func133, k133⟩
  · cases h; exact ⟨Tryz.f134, Tryz.func134, k134⟩
  · cases h; exact ⟨Tryz.f135, Tryz.func135, k135⟩
  · cases h; exact ⟨Tryz.f136, Tryz.func136, k136⟩
  · cases h; exact ⟨Tryz.f137, Tryz.func137, k137⟩
  · cases h; exact ⟨Tryz.f138, Tryz.func138, k138⟩
  · cases h; exact ⟨Tryz.f139, Tryz.func139, k139⟩
  · cases h; exact ⟨Tryz.f140, Tryz.func140, k140⟩
  · cases h; exact ⟨Tryz.f141, Tryz.func141, k141⟩
  · cases h; exact ⟨Tryz.f142, Tryz.func142, k142⟩
  · cases h; exact ⟨Tryz.f143, Tryz.func143, k143⟩
  · cases h; exact ⟨Tryz.f144, Tryz.func144, k144⟩
  · cases h; exact ⟨Tryz.f146, Tryz.func146, k146⟩
  · cases h; exact ⟨Tryz.f147, Tryz.func147, k147⟩
  · cases h; exact ⟨Tryz.f148, Tryz.func148, k148⟩
  · cases h; exact ⟨Tryz.f149, Tryz.func149, k149⟩
  · cases h; exact ⟨Tryz.f150, Tryz.func150, k150⟩
  · cases h; exact ⟨Tryz.f151, Tryz.func151, k151⟩
  · cases h; exact ⟨Tryz.f152, Tryz.func152, k152⟩
  · cases h; exact ⟨Tryz.f153, Tryz.func153, k153⟩
  · cases h; exact ⟨Tryz.f154, Tryz.func154, k154⟩
  · cases h; exact ⟨Tryz.f155, Tryz.func155, k155⟩
  · cases h; exact ⟨Tryz.f156, Tryz.func156, k156⟩
  · cases h; exact ⟨Tryz.f157, Tryz.func157, k157⟩
  · cases h; exact ⟨Tryz.f158, Tryz.func158, k158⟩
  · cases h; exact ⟨Tryz.f159, Tryz.func159, k159⟩
  · cases h; exact ⟨Tryz.f160, Tryz.func160, k160⟩
  · cases h; exact ⟨Tryz.f161, Tryz.func161, k161⟩
  · cases h; exact ⟨Tryz.f162, Tryz.func162, k162⟩
  · cases h; exact ⟨Tryz.f163, Tryz.func163, k163⟩
  · cases h; exact ⟨Tryz.f164, Tryz.func164, k164⟩
  · cases h; exact ⟨Tryz.f165, Tryz.func165, k165⟩
  · cases h
def tab4 : Nat → Option AFunc
  | 166 => some a166
  | 167 => some a167
  | 168 => some a168
  | 169 => some a169
  | 170 => some a170
  | 171 => some a171
  | 172 => some a172
  | 176 => some a176
  | 177 => some a177
  | 178 => some a178
  | 179 => some a179
  | 180 => some a180
  | 181 => some a181
  | 182 => some a182
  | 183 => some a183
  | 184 => some a184
  | 185 => some a185
  | 186 => some a186
  | 187 => some a187
  | 188 => some a188
  | 189 => some a189
  | 190 => some a190
  | 193 => some a193
  | 195 => some a195
  | 196 => some a196
  | 197 => some a197
  | 198 => some a198
  | 199 => some a199
  | 200 => some a200
  | 201 => some a201
  | 203 => some a203
  | 204 => some a204
  | _ => none
theorem tab4_ok : TabIs tab4 := by
  intro g af h
  unfold tab4 at h
  split at h
  · cases h; exact ⟨Tryz.f166, Tryz.func166, k166⟩
  · cases h; exact ⟨Tryz.f167, Tryz.func167, k167⟩
  · cases h; exact ⟨Tryz.f168, Tryz.func168, k168⟩
  · cases h; exact ⟨Tryz.f169, Tryz.func169, k169⟩
  · cases h; exact ⟨Tryz.f170, Tryz.func170, k170⟩
  · cases h; exact ⟨Tryz.f171, Tryz.func171, k171⟩
  · cases h; exact ⟨Tryz.f172, Tryz.func172, k172⟩
  · cases h; exact ⟨Tryz.f176, Tryz.func176, k176⟩
  · cases h; exact ⟨Tryz.f177, Tryz.func177, k177⟩
  · cases h; exact ⟨Tryz.f178, Tryz.func178, k178⟩
  · cases h; exact ⟨Tryz.f179, Tryz.func179, k179⟩
  · cases h; exact ⟨Tryz.f180, Tryz.func180, k180⟩
  · cases h; exact ⟨Tryz.f181, Tryz.func181, k181⟩
  · cases h; exact ⟨Tryz.f182, Tryz.func182, k182⟩
  · cases h; exact ⟨Tryz.f183, Tryz.func183, k183⟩
  · cases h; exact ⟨Tryz.f184, Tryz.func184, k184⟩
  · cases h; exact ⟨Tryz.f185, Tryz.func185, k185⟩
  · cases h; exact ⟨Tryz.f186, Tryz.func186, k186⟩
  · cases h; exact ⟨Tryz.f187, Tryz.func187, k187⟩
  · cases h; exact ⟨Tryz.f188, Tryz.func188, k188⟩
  · cases h; exact ⟨Tryz.f189, Tryz.func189, k189⟩
  · cases h; exact ⟨Tryz.f190, Tryz.func190, k190⟩
  · cases h; exact ⟨Tryz.f193, Tryz.func193, k193⟩
  · cases h; exact ⟨Tryz.f195, Tryz.func195, k195⟩
  · cases h; exact ⟨Tryz.f196, Tryz.func196, k196⟩
  · cases h; exact ⟨Tryz.f197, Tryz.func197, k197⟩
  · cases h; exact ⟨Tryz.f198, Tryz.func198, k198⟩
  · cases h; exact ⟨Tryz.f199, Tryz.func199, k199⟩
  · cases h; exact ⟨Tryz.f200, Tryz.func200, k200⟩
  · cases h; exact ⟨Tryz.f201, Tryz.func201, k201⟩
  · cases h; exact ⟨Tryz.f203, Tryz.func203, k203⟩
  · cases h; exact ⟨Tryz.f204, Tryz.func204, k204⟩
  · cases h
def tab5 : Nat → Option AFunc
  | 205 => some a205
  | 206 => some a206
  | 208 => some a208
  | 209 => some a209
  | 215 => some a215
  | 219 => some a219
  | 220 => some a220
  | 221 => some a221
  | 222 => some a222
  | 224 => some a224
  | 225 => some a225
  | 226 => some a226
  | 227 => some a227
  | 228 => some a228
  | 229 => some a229
  | 230 => some a230
  | 232 => some a232
  | 233 => some a233
  | 234 => some a234
  | 242 => some a242
  | 243 => some a243
  | 244 => some a244
  | 246 => some a246
  | 252 => some a252
  | 253 => some a253
  | 255 => some a255
  | 256 => some a256
  | 257 => some a257
  | 258 => some a258
  | 263 => some a263
  | 265 => some a265
  | 266 => some a266
  | _ => none
theorem tab5_ok : TabIs tab5 := by
  intro g af h
  unfold tab5 at h
  split at h
  · cases h; exact ⟨Tryz.f205, Tryz.func205, k205⟩
  · cases h; exact ⟨Tryz.f206, Tryz.func206, k206⟩
  · cases h; exact ⟨Tryz.f208, Tryz.func208, k208⟩
  · cases h; exact ⟨Tryz.f209, Tryz.func209, k209⟩
  · cases h; exact ⟨Tryz.f215, Tryz.func215, k215⟩
  · cases h; exact ⟨Tryz.f219, Tryz.func219, k219⟩
  · cases h; exact ⟨Tryz.f220, Tryz.func220, k220⟩
  · cases h; exact ⟨Tryz.f221, Tryz.func221, k221⟩
  · cases h; exact ⟨Tryz.f222, Tryz.func222, k222⟩
  · cases h; exact ⟨Tryz.f224, Tryz.func224, k224⟩
  · cases h; exact ⟨Tryz.f225, Tryz.func225, k225⟩
  · cases h; exact ⟨Tryz.f226, Tryz.func226, k226⟩
  · cases h; exact ⟨Tryz.f227, Tryz.func227, k227⟩
  · cases h; exact ⟨Tryz.f228, Tryz.func228, k228⟩
  · cases h; exact ⟨Tryz.f229, Tryz.func229, k229⟩
  · cases h; exact ⟨Tryz.f230, Tryz.func230, k230⟩
  · cases h; exact ⟨Tryz.f232, Tryz.func232, k232⟩
  · cases h; exact ⟨Tryz.f233, Tryz.func233, k233⟩
  · cases h; exact ⟨Tryz.f234, Tryz.func234, k234⟩
  · cases h; exact ⟨Tryz.f242, Tryz.func242, k242⟩
  · cases h; exact ⟨Tryz.f243, Tryz.func243, k243⟩
  · cases h; exact ⟨Tryz.f244, Tryz.func244, k244⟩
  · cases h; exact ⟨Tryz.f246, Tryz.func246, k246⟩
  · cases h; exact ⟨Tryz.f252, Tryz.func252, k252⟩
  · cases h; exact ⟨Tryz.f253, Tryz.func253, k253⟩
  · cases h; exact ⟨Tryz.f255, Tryz.func255, k255⟩
  · cases h; exact ⟨Tryz.f256, Tryz.func256, k256⟩
  · cases h; exact ⟨Tryz.f257, Tryz.func257, k257⟩
  · cases h; exact ⟨Tryz.f258, Tryz.func258, k258⟩
  · cases h; exact ⟨Tryz.f263, Tryz.func263, k263⟩
  · cases h; exact ⟨Tryz.f265, Tryz.func265, k265⟩
  · cases h; exact ⟨Tryz.f266, Tryz.func266, k266⟩
  · cases h
def tab6 : Nat → Option AFunc
  | 271 => some a271
  | 272 => some a272
  | 273 => some a273
  | 274 => some a274
  | 276 => some a276
  | 277 => some a277
  | 278 => some a278
  | 280 => some a280
  | 281 => some a281
  | 282 => some a282
  | 283 => some a283
  | 284 => some a284
  | 285 => some a285
  | 286 => some a286
  | 288 => some a288
  | 290 => some a290
  | 292 => some a292
  | 293 => some a293
  | 294 => some a294
  | 295 => some a295
  | 296 => some a296
  | 297 => some a297
  | 298 => some a298
  | 299 => some a299
  | 300 => some a300
  | 301 => some a301
  | 302 => some a302
  | 303 => some a303
  | 304 => some a304
  | 305 => some a305
  | 306 => some a306
  | 307 => some a307
  | _ => none
theorem tab6_ok : TabIs tab6 := by
  intro g af h
  unfold tab6 at h
  split at h
  · cases h; exact ⟨Tryz.f271, Tryz.func271, k271⟩
  · cases h; exact ⟨Tryz.f272, Tryz.func272, k272⟩
  · cases h; exact ⟨Tryz.f273, Tryz.func273, k273⟩
  · cases h; exact ⟨Tryz.f274, Tryz.func274, k274⟩
  · cases h; exact ⟨Tryz.f276, Tryz.func276, k276⟩
  · cases h; exact ⟨Tryz.f277, Tryz.func277, k277⟩
  · cases h; exact ⟨Tryz.f278, Tryz.func278, k278⟩
  · cases h; exact ⟨Tryz.f280, Tryz.func280, k280⟩
  · cases h; exact ⟨Tryz.f281, Tryz.func281, k281⟩
  · cases h; exact ⟨Tryz.f282, Tryz.func282, k282⟩
  · cases h; exact ⟨Tryz.f283, Tryz.func283, k283⟩
  · cases h; exact ⟨Tryz.f284, Tryz.func284, k284⟩
  · cases h; exact ⟨Tryz.f285, Tryz.func285, k285⟩
  · cases h; exact ⟨Tryz.f286, Tryz.func286, k286⟩
  · cases h; exact ⟨Tryz.f288, Tryz.func288, k288⟩
  · cases h; exact ⟨Tryz.f290, Tryz.func290, k290⟩
  · cases h; exact ⟨Tryz.f292, Tryz.func292, k292⟩
  · cases h; exact ⟨Tryz.f293, Tryz.func293, k293⟩
  · cases h; exact ⟨Tryz.f294, Tryz.func294, k294⟩
  · cases h; exact ⟨Tryz.f295, Tryz.func295, k295⟩
  · cases h; exact ⟨Tryz.f296, Tryz.func296, k296⟩
  · cases h; exact ⟨Tryz.f297, Tryz.func297, k297⟩
  · cases h; exact ⟨Tryz.f298, Tryz.func298, k298⟩
  · cases h; exact ⟨Tryz.f299, Tryz.func299, k299⟩
  · cases h; exact ⟨Tryz.f300, Tryz.func300, k300⟩
  · cases h; exact ⟨Tryz.f301, Tryz.func301, k301⟩
  · cases h; exact ⟨Tryz.f302, Tryz.func302, k302⟩
  · cases h; exact ⟨Tryz.f303, Tryz.func303, k303⟩
  · cases h; exact ⟨Tryz.f304, Tryz.func304, k304⟩
  · cases h; exact ⟨Tryz.f305, Tryz.func305, k305⟩
  · cases h; exact ⟨Tryz.f306, Tryz.func306, k306⟩
  · cases h; exact ⟨Tryz.f307, Tryz.func307, k307⟩
  · cases h
def tab7 : Nat → Option AFunc
  | 308 => some a308
  | 309 => some a309
  | 310 => some a310
  | 313 => some a313
  | 315 => some a315
  | 316 => some a316
  | 317 => some a317
  | 319 => some a319
  | 320 => some a320
  | 322 => some a322
  | 323 => some a323
  | 324 => some a324
  | 326 => some a326
  | 331 => some a331
  | 334 => some a334
  | 336 => some a336
  | 337 => some a337
  | 339 => some a339
  | 340 => some a340
  | 342 => some a342
  | 344 => some a344
  | 345 => some a345
  | 348 => some a348
  | 349 => some a349
  | 350 => some a350
  | 351 => some a351
  | 353 => some a353
  | 354 => some a354
  | 356 => some a356
  | 362 => some a362
  | 365 => some a365
  | 366 => some a366
  | _ => none
theorem tab7_ok : TabIs tab7 := by
  intro g af h
  unfold tab7 at h
  split at h
  · cases h; exact ⟨Tryz.f308, Tryz.func308, k308⟩
  · cases h; exact ⟨Tryz.f309, Tryz.func309, k309⟩
  · cases h; exact ⟨Tryz.f310, Tryz.func310, k310⟩
  · cases h; exact ⟨Tryz.f313, Tryz.func313, k313⟩
  · cases h; exact ⟨Tryz.f315, Tryz.func315, k315⟩
  · cases h; exact ⟨Tryz.f316, Tryz.func316, k316⟩
  · cases h; exact ⟨Tryz.f317, Tryz.func317, k317⟩
  · cases h; exact ⟨Tryz.f319, Tryz.func319, k319⟩
  · cases h; exact ⟨Tryz.f320, Tryz.func320, k320⟩
  · cases h; exact ⟨Tryz.f322, Tryz.func322, k322⟩
  · cases h; exact ⟨Tryz.f323, Tryz.func323, k323⟩
  · cases h; exact ⟨Tryz.f324, Tryz.func324, k324⟩
  · cases h; exact ⟨Tryz.f326, Tryz.func326, k326⟩
  · cases h; exact ⟨Tryz.f331, Tryz.func331, k331⟩
  · cases h; exact ⟨Tryz.f334, Tryz.func334, k334⟩
  · cases h; exact ⟨Tryz.f336, Tryz.func336, k336⟩
  · cases h; exact ⟨Tryz.f337, Tryz.func337, k337⟩
  · cases h; exact ⟨Tryz.f339, Tryz.func339, k339⟩
  · cases h; exact ⟨Tryz.f340, Tryz.func340, k340⟩
  · cases h; exact ⟨Tryz.f342, Tryz.func342, k342⟩
  · cases h; exact ⟨Tryz.f344, Tryz.func344, k344⟩
  · cases h; exact ⟨Tryz.f345, Tryz.func345, k345⟩
  · cases h; exact ⟨Tryz.f348, Tryz.func348, k348⟩
  · cases h; exact ⟨Tryz.f349, Tryz.func349, k349⟩
  · cases h; exact ⟨Tryz.f350, Tryz.func350, k350⟩
  · cases h; exact ⟨Tryz.f351, Tryz.func351, k351⟩
  · cases h; exact ⟨Tryz.f353, Tryz.func353, k353⟩
  · cases h; exact ⟨Tryz.f354, Tryz.func354, k354⟩
  · cases h; exact ⟨Tryz.f356, Tryz.func356, k356⟩
  · cases h; exact ⟨Tryz.f362, Tryz.func362, k362⟩
  · cases h; exact ⟨Tryz.f365, Tryz.func365, k365⟩
  · cases h; exact ⟨Tryz.f366, Tryz.func366, k366⟩
  · cases h
def tab8 : Nat → Option AFunc
  | 367 => some a367
  | 368 => some a368
  | 371 => some a371
  | 372 => some a372
  | 383 => some a383
  | 384 => some a384
  | 385 => some a385
  | 387 => some a387
  | 389 => some a389
  | 399 => some a399
  | 434 => some a434
  | 435 => some a435
  | 437 => some a437
  | 438 => some a438
  | 439 => some a439
  | 440 => some a440
  | 441 => some a441
  | _ => none
theorem tab8_ok : TabIs tab8 := by
  intro g af h
  unfold tab8 at h
  split at h
  · cases h; exact ⟨Tryz.f367, Tryz.func367, k367⟩
  · cases h; exact ⟨Tryz.f368, Tryz.func368, k368⟩
  · cases h; exact ⟨Tryz.f371, Tryz.func371, k371⟩
  · cases h; exact ⟨Tryz.f372, Tryz.func372, k372⟩
  · cases h; exact ⟨Tryz.f383, Tryz.func383, k383⟩
  · cases h; exact ⟨Tryz.f384, Tryz.func384, k384⟩
  · cases h; exact ⟨Tryz.f385, Tryz.func385, k385⟩
  · cases h; exact ⟨Tryz.f387, Tryz.func387, k387⟩
  · cases h; exact ⟨Tryz.f389, Tryz.func389, k389⟩
  · cases h; exact ⟨Tryz.f399, Tryz.func399, k399⟩
  · cases h; exact ⟨Tryz.f434, Tryz.func434, k434⟩
  · cases h; exact ⟨Tryz.f435, Tryz.func435, k435⟩
  · cases h; exact ⟨Tryz.f437, Tryz.func437, k437⟩
  · cases h; exact ⟨Tryz.f438, Tryz.func438, k438⟩
  · cases h; exact ⟨Tryz.f439, Tryz.func439, k439⟩
  · cases h; exact ⟨Tryz.f440, Tryz.func440, k440⟩
  · cases h; exact ⟨Tryz.f441, Tryz.func441, k441⟩
  · cases h
def table : Nat → Option AFunc := fun g => (bif Nat.ble g 165 then (bif Nat.ble g 92 then (bif Nat.ble g 52 then tab0 g else tab1 g) else (bif Nat.ble g 132 then tab2 g else tab3 g)) else (bif Nat.ble g 266 then (bif Nat.ble g 204 then tab4 g else tab5 g) else (bif Nat.ble g 307 then tab6 g else (bif Nat.ble g 366 then tab7 g else tab8 g))))
theorem table_ok : ∀ g af, table g = some af → ∃ fn, Tryz.prog.funcs[g]? = some fn ∧ cFunc Tryz.prog fn = some af := ((((((tab0_ok).pick (tab1_ok) 52)).pick (((tab2_ok).pick (tab3_ok) 132)) 92)).pick (((((tab4_ok).pick (tab5_ok) 204)).pick (((tab6_ok).pick (((tab7_ok).pick (tab8_ok) 366)) 307)) 266)) 165)
end Go.Proofs.YtakgcpmemalmaaaGreatDoor
