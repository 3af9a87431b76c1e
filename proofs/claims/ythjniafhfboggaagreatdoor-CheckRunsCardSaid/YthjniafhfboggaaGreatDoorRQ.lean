/- The code of the road stands for the program's; what is known of calls is so; the call answers true. No premise. -/
import Derived.Test.YthjniafhfboggaaGreatDoorQB
import Derived.Test.YthjniafhfboggaaGreatDoorNX
import Derived.Test.YthjniafhfboggaaGreatDoorS2
import Derived.Test.YthjniafhfboggaaGreatDoorPT
import Derived.Test.YthjniafhfboggaaGreatDoorFX
namespace Go.AbN
open Go Go.Ab Go.AbQ Go.Proofs

theorem funcs_ok0 : ∀ f m, Q0 f = some m → FuncSound Tryz.prog f m := by
  intro f m h
  unfold Q0 at h
  split at h
  · cases h; exact funcSound_of Tryz.func3 ok3
  · cases h; exact funcSound_of Tryz.func4 ok4
  · cases h; exact funcSound_of Tryz.func5 ok5
  · cases h; exact funcSound_of Tryz.func6 ok6
  · cases h; exact funcSound_of Tryz.func7 ok7
  · cases h; exact funcSound_of Tryz.func8 ok8
  · cases h; exact funcSound_of Tryz.func9 ok9
  · cases h; exact funcSound_of Tryz.func10 ok10
  · cases h; exact funcSound_of Tryz.func11 ok11
  · cases h; exact funcSound_of Tryz.func12 ok12
  · cases h; exact funcSound_of Tryz.func13 ok13
  · cases h; exact sound14
  · cases h; exact funcSound_of Tryz.func15 ok15
  · cases h; exact funcSound_of Tryz.func16 ok16
  · cases h; exact funcSound_of Tryz.func17 ok17
  · cases h; exact funcSound_of Tryz.func18 ok18
  · cases h; exact funcSound_of Tryz.func19 ok19
  · cases h; exact funcSound_of Tryz.func20 ok20
  · cases h; exact funcSound_of Tryz.func21 ok21
  · cases h; exact funcSound_of Tryz.func23 ok23
  · cases h; exact funcSound_of Tryz.func25 ok25
  · cases h; exact funcSound_of Tryz.func27 ok27
  · cases h; exact funcSound_of Tryz.func28 ok28
  · cases h; exact funcSound_of Tryz.func29 ok29
  · cases h; exact funcSound_of Tryz.func30 ok30
  · cases h; exact funcSound_of Tryz.func31 ok31
  · cases h; exact funcSound_of Tryz.func32 ok32
  · cases h; exact funcSound_of Tryz.func33 ok33
  · cases h; exact funcSound_of Tryz.func34 ok34
  · cases h; exact funcSound_of Tryz.func35 ok35
  · cases h; exact funcSound_of Tryz.func37 ok37
  · cases h; exact funcSound_of Tryz.func38 ok38
  · cases h; exact funcSound_of Tryz.func39 ok39
  · cases h; exact funcSound_of Tryz.func40 ok40
  · cases h; exact funcSound_of Tryz.func41 ok41
  · cases h; exact funcSound_of Tryz.func42 ok42
  · cases h; exact funcSound_of Tryz.func43 ok43
  · cases h; exact funcSound_of Tryz.func44 ok44
  · cases h; exact funcSound_of Tryz.func45 ok45
  · cases h; exact funcSound_of Tryz.func51 ok51
  · cases h; exact funcSound_of Tryz.func54 ok54
  · cases h; exact funcSound_of Tryz.func55 ok55
  · cases h; exact funcSound_of Tryz.func56 ok56
  · cases h; exact funcSound_of Tryz.func57 ok57
  · cases h; exact funcSound_of Tryz.func58 ok58
  · cases h; exact funcSound_of Tryz.func59 ok59
  · cases h; exact funcSound_of Tryz.func60 ok60
  · cases h; exact funcSound_of Tryz.func61 ok61
  · cases h; exact funcSound_of Tryz.func62 ok62
  · cases h; exact funcSound_of Tryz.func63 ok63
  · cases h
theorem funcs_ok1 : ∀ f m, Q1 f = some m → FuncSound Tryz.prog f m := by
  intro f m h
  unfold Q1 at h
  split at h
  · cases h; exact funcSound_of Tryz.func64 ok64
  · cases h; exact funcSound_of Tryz.func65 ok65
  · cases h; exact funcSound_of Tryz.func66 ok66
  · cases h; exact funcSound_of Tryz.func67 ok67
  · cases h; exact funcSound_of Tryz.func68 ok68
  · cases h; exact funcSound_of Tryz.func69 ok69
  · cases h; exact funcSound_of Tryz.func70 ok70
  · cases h; exact funcSound_of Tryz.func71 ok71
  · cases h; exact funcSound_of Tryz.func72 ok72
  · cases h; exact funcSound_of Tryz.func73 ok73
  · cases h; exact funcSound_of Tryz.func74 ok74
  · cases h; exact funcSound_of Tryz.func75 ok75
  · cases h; exact funcSound_of Tryz.func76 ok76
  · cases h; exact funcSound_of Tryz.func77 ok77
  · cases h; exact funcSound_of Tryz.func78 ok78
  · cases h; exact funcSound_of Tryz.func79 ok79
  · cases h; exact funcSound_of Tryz.func80 ok80
  · cases h; exact funcSound_of Tryz.func81 ok81
  · cases h; exact funcSound_of Tryz.func82 ok82
  · cases h; exact funcSound_of Tryz.func83 ok83
  · cases h; exact funcSound_of Tryz.func84 ok84
  · cases h; exact funcSound_of Tryz.func85 ok85
  · cases h; exact funcSound_of Tryz.func86 ok86
  · cases h; exact funcSound_of Tryz.func87 ok87
  · cases h; exact funcSound_of Tryz.func88 ok88
  · cases h; exact funcSound_of Tryz.func89 ok89
  · cases h; exact funcSound_of Tryz.func90 ok90
  · cases h; exact funcSound_of Tryz.func91 ok91
  · cases h; exact funcSound_of Tryz.func92 ok92
  · cases h; exact funcSound_of Tryz.func93 ok93
  · cases h; exact funcSound_of Tryz.func94 ok94
  · cases h; exact funcSound_of Tryz.func95 ok95
  · cases h; exact funcSound_of Tryz.func96 ok96
  · cases h; exact funcSound_of Tryz.func97 ok97
  · cases h; exact funcSound_of Tryz.func98 ok98
  · cases h; exact funcSound_of Tryz.func102 ok102
  · cases h; exact funcSound_of Tryz.func103 ok103
  · cases h; exact funcSound_of Tryz.func104 ok104
  · cases h; exact funcSound_of Tryz.func105 ok105
  · cases h; exact funcSound_of Tryz.func106 ok106
  · cases h; exact funcSound_of Tryz.func107 ok107
  · cases h; exact funcSound_of Tryz.func108 ok108
  · cases h; exact funcSound_of Tryz.func109 ok109
  · cases h; exact funcSound_of Tryz.func110 ok110
  · cases h; exact funcSound_of Tryz.func111 ok111
  · cases h; exact funcSound_of Tryz.func112 ok112
  · cases h; exact funcSound_of Tryz.func113 ok113
  · cases h; exact funcSound_of Tryz.func114 ok114
  · cases h; exact funcSound_of Tryz.func115 ok115
  · cases h; exact funcSound_of Tryz.func116 ok116
  · cases h
theorem funcs_ok2 : ∀ f m, Q2 f = some m → FuncSound Tryz.prog f m := by
  intro f m h
  unfold Q2 at h
  split at h
  · cases h; exact funcSound_of Tryz.func117 ok117
  · cases h; exact funcSound_of Tryz.func118 ok118
  · cases h; exact funcSound_of Tryz.func119 ok119
  · cases h; exact funcSound_of Tryz.func120 ok120
  · cases h; exact funcSound_of Tryz.func121 ok121
  · cases h; exact funcSound_of Tryz.func122 ok122
  · cases h; exact funcSound_of Tryz.func123 ok123
  · cases h; exact funcSound_of Tryz.func124 ok124
  · cases h; exact funcSound_of Tryz.func125 ok125
  · cases h; exact funcSound_of Tryz.func126 ok126
  · cases h; exact funcSound_of Tryz.func127 ok127
  · cases h; exact funcSound_of Tryz.func128 ok128
  · cases h; exact funcSound_of Tryz.func129 ok129
  · cases h; exact funcSound_of Tryz.func130 ok130
  · cases h; exact funcSound_of Tryz.func131 ok131
  · cases h; exact funcSound_of Tryz.func132 ok132
  · cases h; exact funcSound_of Tryz.func134 ok134
  · cases h; exact funcSound_of Tryz.func135 ok135
  · cases h; exact funcSound_of Tryz.func136 ok136
  · cases h; exact funcSound_of Tryz.func137 ok137
  · cases h; exact funcSound_of Tryz.func138 ok138
  · cases h; exact funcSound_of Tryz.func139 ok139
  · cases h; exact funcSound_of Tryz.func140 ok140
  · cases h; exact funcSound_of Tryz.func141 ok141
  · cases h; exact funcSound_of Tryz.func142 ok142
  · cases h; exact funcSound_of Tryz.func143 ok143
  · cases h; exact funcSound_of Tryz.func144 ok144
  · cases h; exact funcSound_of Tryz.func145 ok145
  · cases h; exact funcSound_of Tryz.func146 ok146
  · cases h; exact funcSound_of Tryz.func147 ok147
  · cases h; exact funcSound_of Tryz.func148 ok148
  · cases h; exact funcSound_of Tryz.func149 ok149
  · cases h; exact funcSound_of Tryz.func150 ok150
  · cases h; exact funcSound_of Tryz.func151 ok151
  · cases h; exact funcSound_of Tryz.func152 ok152
  · cases h; exact funcSound_of Tryz.func154 ok154
  · cases h; exact funcSound_of Tryz.func155 ok155
  · cases h; exact funcSound_of Tryz.func156 ok156
  · cases h; exact funcSound_of Tryz.func157 ok157
  · cases h; exact funcSound_of Tryz.func158 ok158
  · cases h; exact funcSound_of Tryz.func159 ok159
  · cases h; exact funcSound_of Tryz.func160 ok160
  · cases h; exact funcSound_of Tryz.func161 ok161
  · cases h; exact funcSound_of Tryz.func162 ok162
  · cases h; exact funcSound_of Tryz.func164 ok164
  · cases h; exact funcSound_of Tryz.func165 ok165
  · cases h; exact funcSound_of Tryz.func166 ok166
  · cases h; exact funcSound_of Tryz.func167 ok167
  · cases h; exact funcSound_of Tryz.func168 ok168
  · cases h; exact funcSound_of Tryz.func169 ok169
  · cases h
theorem funcs_ok3 : ∀ f m, Q3 f = some m → FuncSound Tryz.prog f m := by
  intro f m h
  unfold Q3 at h
  split at h
  · cases h; exact funcSound_of Tryz.func170 ok170
  · cases h; exact funcSound_of Tryz.func171 ok171
  · cases h; exact funcSound_of Tryz.func172 ok172
  · cases h; exact funcSound_of Tryz.func173 ok173
  · cases h; exact funcSound_of Tryz.func174 ok174
  · cases h; exact funcSound_of Tryz.func175 ok175
  · cases h; exact funcSound_of Tryz.func178 ok178
  · cases h; exact funcSound_of Tryz.func179 ok179
  · cases h; exact funcSound_of Tryz.func180 ok180
  · cases h; exact funcSound_of Tryz.func181 ok181
  · cases h; exact funcSound_of Tryz.func182 ok182
  · cases h; exact funcSound_of Tryz.func183 ok183
  · cases h; exact funcSound_of Tryz.func184 ok184
  · cases h; exact funcSound_of Tryz.func185 ok185
  · cases h; exact funcSound_of Tryz.func186 ok186
  · cases h; exact funcSound_of Tryz.func187 ok187
  · cases h; exact funcSound_of Tryz.func188 ok188
  · cases h; exact funcSound_of Tryz.func189 ok189
  · cases h; exact funcSound_of Tryz.func190 ok190
  · cases h; exact funcSound_of Tryz.func191 ok191
  · cases h; exact funcSound_of Tryz.func192 ok192
  · cases h; exact funcSound_of Tryz.func193 ok193
  · cases h; exact funcSound_of Tryz.func194 ok194
  · cases h; exact funcSound_of Tryz.func195 ok195
  · cases h; exact funcSound_of Tryz.func196 ok196
  · cases h; exact funcSound_of Tryz.func197 ok197
  · cases h; exact funcSound_of Tryz.func201 ok201
  · cases h; exact funcSound_of Tryz.func202 ok202
  · cases h; exact funcSound_of Tryz.func203 ok203
  · cases h; exact funcSound_of Tryz.func204 ok204
  · cases h; exact funcSound_of Tryz.func205 ok205
  · cases h; exact funcSound_of Tryz.func206 ok206
  · cases h; exact funcSound_of Tryz.func207 ok207
  · cases h; exact funcSound_of Tryz.func209 ok209
  · cases h; exact funcSound_of Tryz.func210 ok210
  · cases h; exact funcSound_of Tryz.func211 ok211
  · cases h; exact funcSound_of Tryz.func212 ok212
  · cases h; exact funcSound_of Tryz.func213 ok213
  · cases h; exact funcSound_of Tryz.func214 ok214
  · cases h; exact funcSound_of Tryz.func215 ok215
  · cases h; exact funcSound_of Tryz.func216 ok216
  · cases h; exact funcSound_of Tryz.func217 ok217
  · cases h; exact funcSound_of Tryz.func218 ok218
  · cases h; exact funcSound_of Tryz.func219 ok219
  · cases h; exact funcSound_of Tryz.func220 ok220
  · cases h; exact funcSound_of Tryz.func221 ok221
  · cases h; exact funcSound_of Tryz.func222 ok222
  · cases h; exact funcSound_of Tryz.func223 ok223
  · cases h; exact funcSound_of Tryz.func225 ok225
  · cases h; exact funcSound_of Tryz.func226 ok226
  · cases h
theorem funcs_ok4 : ∀ f m, Q4 f = some m → FuncSound Tryz.prog f m := by
  intro f m h
  unfold Q4 at h
  split at h
  · cases h; exact funcSound_of Tryz.func227 ok227
  · cases h; exact funcSound_of Tryz.func228 ok228
  · cases h; exact funcSound_of Tryz.func229 ok229
  · cases h; exact funcSound_of Tryz.func232 ok232
  · cases h; exact funcSound_of Tryz.func234 ok234
  · cases h; exact funcSound_of Tryz.func235 ok235
  · cases h; exact funcSound_of Tryz.func236 ok236
  · cases h; exact funcSound_of Tryz.func237 ok237
  · cases h; exact funcSound_of Tryz.func238 ok238
  · cases h; exact funcSound_of Tryz.func239 ok239
  · cases h; exact funcSound_of Tryz.func240 ok240
  · cases h; exact funcSound_of Tryz.func241 ok241
  · cases h; exact funcSound_of Tryz.func242 ok242
  · cases h; exact funcSound_of Tryz.func243 ok243
  · cases h; exact funcSound_of Tryz.func244 ok244
  · cases h; exact funcSound_of Tryz.func245 ok245
  · cases h; exact funcSound_of Tryz.func246 ok246
  · cases h; exact funcSound_of Tryz.func247 ok247
  · cases h; exact funcSound_of Tryz.func248 ok248
  · cases h; exact funcSound_of Tryz.func249 ok249
  · cases h; exact funcSound_of Tryz.func250 ok250
  · cases h; exact funcSound_of Tryz.func251 ok251
  · cases h; exact funcSound_of Tryz.func252 ok252
  · cases h; exact funcSound_of Tryz.func253 ok253
  · cases h; exact funcSound_of Tryz.func254 ok254
  · cases h; exact funcSound_of Tryz.func256 ok256
  · cases h; exact funcSound_of Tryz.func257 ok257
  · cases h; exact funcSound_of Tryz.func258 ok258
  · cases h; exact funcSound_of Tryz.func259 ok259
  · cases h; exact funcSound_of Tryz.func260 ok260
  · cases h; exact funcSound_of Tryz.func261 ok261
  · cases h; exact funcSound_of Tryz.func262 ok262
  · cases h; exact funcSound_of Tryz.func263 ok263
  · cases h; exact funcSound_of Tryz.func264 ok264
  · cases h; exact funcSound_of Tryz.func265 ok265
  · cases h; exact funcSound_of Tryz.func266 ok266
  · cases h; exact funcSound_of Tryz.func269 ok269
  · cases h; exact funcSound_of Tryz.func270 ok270
  · cases h; exact funcSound_of Tryz.func271 ok271
  · cases h; exact funcSound_of Tryz.func272 ok272
  · cases h; exact funcSound_of Tryz.func273 ok273
  · cases h; exact funcSound_of Tryz.func274 ok274
  · cases h; exact funcSound_of Tryz.func275 ok275
  · cases h; exact funcSound_of Tryz.func276 ok276
  · cases h; exact funcSound_of Tryz.func277 ok277
  · cases h; exact funcSound_of Tryz.func278 ok278
  · cases h; exact funcSound_of Tryz.func279 ok279
  · cases h; exact funcSound_of Tryz.func280 ok280
  · cases h; exact funcSound_of Tryz.func281 ok281
  · cases h; exact funcSound_of Tryz.func282 ok282
  · cases h
theorem funcs_ok5 : ∀ f m, Q5 f = some m → FuncSound Tryz.prog f m := by
  intro f m h
  unfold Q5 at h
  split at h
  · cases h; exact funcSound_of Tryz.func283 ok283
  · cases h; exact funcSound_of Tryz.func284 ok284
  · cases h; exact funcSound_of Tryz.func285 ok285
  · cases h; exact funcSound_of Tryz.func286 ok286
  · cases h; exact funcSound_of Tryz.func288 ok288
  · cases h; exact funcSound_of Tryz.func289 ok289
  · cases h; exact funcSound_of Tryz.func290 ok290
  · cases h; exact funcSound_of Tryz.func291 ok291
  · cases h; exact funcSound_of Tryz.func292 ok292
  · cases h; exact funcSound_of Tryz.func293 ok293
  · cases h; exact funcSound_of Tryz.func294 ok294
  · cases h; exact funcSound_of Tryz.func295 ok295
  · cases h; exact funcSound_of Tryz.func296 ok296
  · cases h; exact funcSound_of Tryz.func297 ok297
  · cases h; exact funcSound_of Tryz.func298 ok298
  · cases h; exact funcSound_of Tryz.func299 ok299
  · cases h; exact funcSound_of Tryz.func300 ok300
  · cases h; exact funcSound_of Tryz.func301 ok301
  · cases h; exact funcSound_of Tryz.func303 ok303
  · cases h; exact funcSound_of Tryz.func304 ok304
  · cases h; exact funcSound_of Tryz.func305 ok305
  · cases h; exact funcSound_of Tryz.func307 ok307
  · cases h; exact funcSound_of Tryz.func308 ok308
  · cases h; exact funcSound_of Tryz.func309 ok309
  · cases h; exact funcSound_of Tryz.func310 ok310
  · cases h; exact funcSound_of Tryz.func311 ok311
  · cases h; exact funcSound_of Tryz.func312 ok312
  · cases h; exact funcSound_of Tryz.func313 ok313
  · cases h; exact funcSound_of Tryz.func318 ok318
  · cases h; exact funcSound_of Tryz.func319 ok319
  · cases h; exact funcSound_of Tryz.func320 ok320
  · cases h; exact funcSound_of Tryz.func321 ok321
  · cases h; exact funcSound_of Tryz.func322 ok322
  · cases h; exact funcSound_of Tryz.func330 ok330
  · cases h; exact funcSound_of Tryz.func331 ok331
  · cases h; exact funcSound_of Tryz.func332 ok332
  · cases h; exact funcSound_of Tryz.func333 ok333
  · cases h; exact funcSound_of Tryz.func334 ok334
  · cases h; exact funcSound_of Tryz.func335 ok335
  · cases h; exact funcSound_of Tryz.func340 ok340
  · cases h; exact funcSound_of Tryz.func341 ok341
  · cases h; exact funcSound_of Tryz.func342 ok342
  · cases h; exact funcSound_of Tryz.func343 ok343
  · cases h; exact funcSound_of Tryz.func344 ok344
  · cases h; exact funcSound_of Tryz.func345 ok345
  · cases h; exact funcSound_of Tryz.func346 ok346
  · cases h; exact funcSound_of Tryz.func347 ok347
  · cases h; exact funcSound_of Tryz.func348 ok348
  · cases h; exact funcSound_of Tryz.func349 ok349
  · cases h; exact funcSound_of Tryz.func350 ok350
  · cases h
theorem funcs_ok6 : ∀ f m, Q6 f = some m → FuncSound Tryz.prog f m := by
  intro f m h
  unfold Q6 at h
  split at h
  · cases h; exact funcSound_of Tryz.func351 ok351
  · cases h; exact funcSound_of Tryz.func356 ok356
  · cases h; exact funcSound_of Tryz.func357 ok357
  · cases h; exact funcSound_of Tryz.func358 ok358
  · cases h; exact funcSound_of Tryz.func359 ok359
  · cases h; exact funcSound_of Tryz.func360 ok360
  · cases h; exact funcSound_of Tryz.func361 ok361
  · cases h; exact funcSound_of Tryz.func362 ok362
  · cases h; exact funcSound_of Tryz.func363 ok363
  · cases h; exact funcSound_of Tryz.func364 ok364
  · cases h; exact funcSound_of Tryz.func365 ok365
  · cases h; exact funcSound_of Tryz.func366 ok366
  · cases h; exact funcSound_of Tryz.func367 ok367
  · cases h; exact funcSound_of Tryz.func368 ok368
  · cases h; exact funcSound_of Tryz.func369 ok369
  · cases h; exact funcSound_of Tryz.func370 ok370
  · cases h; exact funcSound_of Tryz.func371 ok371
  · cases h; exact funcSound_of Tryz.func372 ok372
  · cases h; exact funcSound_of Tryz.func373 ok373
  · cases h; exact funcSound_of Tryz.func374 ok374
  · cases h; exact funcSound_of Tryz.func375 ok375
  · cases h; exact funcSound_of Tryz.func376 ok376
  · cases h; exact funcSound_of Tryz.func377 ok377
  · cases h
theorem funcs_ok : ∀ f m, Q f = some m → FuncSound Tryz.prog f m := by
  intro f m h
  unfold Q at h
  cases h0 : Q0 f with
  | some q => rw [h0] at h; cases h; exact funcs_ok0 f _ h0
  | none =>
  rw [h0] at h
  simp only at h
  cases h1 : Q1 f with
  | some q => rw [h1] at h; cases h; exact funcs_ok1 f _ h1
  | none =>
  rw [h1] at h
  simp only at h
  cases h2 : Q2 f with
  | some q => rw [h2] at h; cases h; exact funcs_ok2 f _ h2
  | none =>
  rw [h2] at h
  simp only at h
  cases h3 : Q3 f with
  | some q => rw [h3] at h; cases h; exact funcs_ok3 f _ h3
  | none =>
  rw [h3] at h
  simp only at h
  cases h4 : Q4 f with
  | some q => rw [h4] at h; cases h; exact funcs_ok4 f _ h4
  | none =>
  rw [h4] at h
  simp only at h
  cases h5 : Q5 f with
  | some q => rw [h5] at h; cases h; exact funcs_ok5 f _ h5
  | none =>
  rw [h5] at h
  simp only at h
  cases h6 : Q6 f with
  | some q => rw [h6] at h; cases h; exact funcs_ok6 f _ h6
  | none =>
  rw [h6] at h
  simp only at h
  cases h

theorem sound0 (n : Nat) : CallOK Tryz.prog (callN Q (knOf KT) n) := callN_sound ⟨funcs_ok, kt_ok⟩ n
end Go.AbN
