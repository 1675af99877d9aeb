/- Closed facts on this program's types and functions, each by the kernel: sizes, fields, elements, bodies. Written by a program of this session; no condition. -/
import Derived.Test.YtgjafaheglnheaaGreatDoorHsSlices2
import Derived.Test.YtgjafaheglnheaaGreatDoorHsBase
namespace Go.Tr
@[simp] theorem one_2 : oneT Go.Proofs.Tryz.prog 2 = true := by kernel_rfl
@[simp] theorem one_3 : oneT Go.Proofs.Tryz.prog 3 = true := by kernel_rfl
@[simp] theorem one_4 : oneT Go.Proofs.Tryz.prog 4 = true := by kernel_rfl
@[simp] theorem one_5 : oneT Go.Proofs.Tryz.prog 5 = true := by kernel_rfl
@[simp] theorem one_9 : oneT Go.Proofs.Tryz.prog 9 = true := by kernel_rfl
@[simp] theorem one_20 : oneT Go.Proofs.Tryz.prog 20 = true := by kernel_rfl
@[simp] theorem one_21 : oneT Go.Proofs.Tryz.prog 21 = true := by kernel_rfl
@[simp] theorem one_33 : oneT Go.Proofs.Tryz.prog 33 = true := by kernel_rfl
@[simp] theorem one_41 : oneT Go.Proofs.Tryz.prog 41 = true := by kernel_rfl
@[simp] theorem one_56 : oneT Go.Proofs.Tryz.prog 56 = true := by kernel_rfl
@[simp] theorem one_57 : oneT Go.Proofs.Tryz.prog 57 = true := by kernel_rfl
@[simp] theorem one_60 : oneT Go.Proofs.Tryz.prog 60 = true := by kernel_rfl
@[simp] theorem one_63 : oneT Go.Proofs.Tryz.prog 63 = true := by kernel_rfl
@[simp] theorem one_81 : oneT Go.Proofs.Tryz.prog 81 = true := by kernel_rfl
@[simp] theorem one_82 : oneT Go.Proofs.Tryz.prog 82 = true := by kernel_rfl
@[simp] theorem one_86 : oneT Go.Proofs.Tryz.prog 86 = true := by kernel_rfl
@[simp] theorem one_89 : oneT Go.Proofs.Tryz.prog 89 = true := by kernel_rfl
@[simp] theorem one_92 : oneT Go.Proofs.Tryz.prog 92 = true := by kernel_rfl
@[simp] theorem one_107 : oneT Go.Proofs.Tryz.prog 107 = true := by kernel_rfl
@[simp] theorem one_112 : oneT Go.Proofs.Tryz.prog 112 = true := by kernel_rfl
@[simp] theorem one_115 : oneT Go.Proofs.Tryz.prog 115 = true := by kernel_rfl
@[simp] theorem one_128 : oneT Go.Proofs.Tryz.prog 128 = true := by kernel_rfl
@[simp] theorem one_147 : oneT Go.Proofs.Tryz.prog 147 = true := by kernel_rfl
@[simp] theorem one_162 : oneT Go.Proofs.Tryz.prog 162 = true := by kernel_rfl
@[simp] theorem one_187 : oneT Go.Proofs.Tryz.prog 187 = true := by kernel_rfl
@[simp] theorem one_188 : oneT Go.Proofs.Tryz.prog 188 = true := by kernel_rfl
@[simp] theorem one_189 : oneT Go.Proofs.Tryz.prog 189 = true := by kernel_rfl
@[simp] theorem one_197 : oneT Go.Proofs.Tryz.prog 197 = true := by kernel_rfl
@[simp] theorem one_200 : oneT Go.Proofs.Tryz.prog 200 = true := by kernel_rfl
@[simp] theorem one_210 : oneT Go.Proofs.Tryz.prog 210 = true := by kernel_rfl
@[simp] theorem one_211 : oneT Go.Proofs.Tryz.prog 211 = true := by kernel_rfl
@[simp] theorem one_212 : oneT Go.Proofs.Tryz.prog 212 = true := by kernel_rfl
@[simp] theorem one_226 : oneT Go.Proofs.Tryz.prog 226 = true := by kernel_rfl
@[simp] theorem one_227 : oneT Go.Proofs.Tryz.prog 227 = true := by kernel_rfl
@[simp] theorem one_235 : oneT Go.Proofs.Tryz.prog 235 = true := by kernel_rfl
@[simp] theorem one_236 : oneT Go.Proofs.Tryz.prog 236 = true := by kernel_rfl
@[simp] theorem one_257 : oneT Go.Proofs.Tryz.prog 257 = true := by kernel_rfl
@[simp] theorem one_264 : oneT Go.Proofs.Tryz.prog 264 = true := by kernel_rfl
@[simp] theorem one_279 : oneT Go.Proofs.Tryz.prog 279 = true := by kernel_rfl
@[simp] theorem one_280 : oneT Go.Proofs.Tryz.prog 280 = true := by kernel_rfl
@[simp] theorem one_302 : oneT Go.Proofs.Tryz.prog 302 = true := by kernel_rfl
@[simp] theorem one_312 : oneT Go.Proofs.Tryz.prog 312 = true := by kernel_rfl
@[simp] theorem one_313 : oneT Go.Proofs.Tryz.prog 313 = true := by kernel_rfl
@[simp] theorem one_317 : oneT Go.Proofs.Tryz.prog 317 = true := by kernel_rfl
@[simp] theorem one_318 : oneT Go.Proofs.Tryz.prog 318 = true := by kernel_rfl
@[simp] theorem one_364 : oneT Go.Proofs.Tryz.prog 364 = true := by kernel_rfl
@[simp] theorem one_379 : oneT Go.Proofs.Tryz.prog 379 = true := by kernel_rfl
@[simp] theorem one_470 : oneT Go.Proofs.Tryz.prog 470 = true := by kernel_rfl
@[simp] theorem one_505 : oneT Go.Proofs.Tryz.prog 505 = true := by kernel_rfl
theorem agg_24 : aggT Go.Proofs.Tryz.prog 24 3 = true := by kernel_rfl
theorem agg_35 : aggT Go.Proofs.Tryz.prog 35 5 = true := by kernel_rfl
theorem agg_40 : aggT Go.Proofs.Tryz.prog 40 5 = true := by kernel_rfl
theorem agg_43 : aggT Go.Proofs.Tryz.prog 43 5 = true := by kernel_rfl
theorem agg_45 : aggT Go.Proofs.Tryz.prog 45 17 = true := by kernel_rfl
theorem agg_50 : aggT Go.Proofs.Tryz.prog 50 11 = true := by kernel_rfl
theorem agg_70 : aggT Go.Proofs.Tryz.prog 70 10 = true := by kernel_rfl
theorem agg_85 : aggT Go.Proofs.Tryz.prog 85 2 = true := by kernel_rfl
theorem agg_94 : aggT Go.Proofs.Tryz.prog 94 2 = true := by kernel_rfl
theorem agg_96 : aggT Go.Proofs.Tryz.prog 96 5 = true := by kernel_rfl
theorem agg_98 : aggT Go.Proofs.Tryz.prog 98 18 = true := by kernel_rfl
theorem agg_99 : aggT Go.Proofs.Tryz.prog 99 144 = true := by kernel_rfl
theorem agg_100 : aggT Go.Proofs.Tryz.prog 100 8 = true := by kernel_rfl
theorem agg_110 : aggT Go.Proofs.Tryz.prog 110 6 = true := by kernel_rfl
theorem agg_130 : aggT Go.Proofs.Tryz.prog 130 25 = true := by kernel_rfl
theorem agg_138 : aggT Go.Proofs.Tryz.prog 138 5 = true := by kernel_rfl
theorem agg_164 : aggT Go.Proofs.Tryz.prog 164 4 = true := by kernel_rfl
theorem agg_168 : aggT Go.Proofs.Tryz.prog 168 7 = true := by kernel_rfl
theorem agg_186 : aggT Go.Proofs.Tryz.prog 186 2 = true := by kernel_rfl
theorem agg_193 : aggT Go.Proofs.Tryz.prog 193 16 = true := by kernel_rfl
theorem agg_202 : aggT Go.Proofs.Tryz.prog 202 2 = true := by kernel_rfl
theorem agg_214 : aggT Go.Proofs.Tryz.prog 214 5 = true := by kernel_rfl
theorem agg_217 : aggT Go.Proofs.Tryz.prog 217 2 = true := by kernel_rfl
theorem agg_220 : aggT Go.Proofs.Tryz.prog 220 5 = true := by kernel_rfl
theorem agg_229 : aggT Go.Proofs.Tryz.prog 229 6 = true := by kernel_rfl
theorem agg_234 : aggT Go.Proofs.Tryz.prog 234 1 = true := by kernel_rfl
theorem agg_238 : aggT Go.Proofs.Tryz.prog 238 4 = true := by kernel_rfl
theorem agg_251 : aggT Go.Proofs.Tryz.prog 251 3 = true := by kernel_rfl
theorem agg_255 : aggT Go.Proofs.Tryz.prog 255 7 = true := by kernel_rfl
theorem agg_259 : aggT Go.Proofs.Tryz.prog 259 5 = true := by kernel_rfl
theorem agg_282 : aggT Go.Proofs.Tryz.prog 282 2 = true := by kernel_rfl
theorem agg_289 : aggT Go.Proofs.Tryz.prog 289 1 = true := by kernel_rfl
theorem agg_303 : aggT Go.Proofs.Tryz.prog 303 2 = true := by kernel_rfl
theorem agg_310 : aggT Go.Proofs.Tryz.prog 310 0 = true := by kernel_rfl
theorem agg_315 : aggT Go.Proofs.Tryz.prog 315 3 = true := by kernel_rfl
theorem agg_320 : aggT Go.Proofs.Tryz.prog 320 2 = true := by kernel_rfl
theorem agg_334 : aggT Go.Proofs.Tryz.prog 334 24 = true := by kernel_rfl
theorem agg_339 : aggT Go.Proofs.Tryz.prog 339 2 = true := by kernel_rfl
theorem agg_343 : aggT Go.Proofs.Tryz.prog 343 2 = true := by kernel_rfl
theorem agg_348 : aggT Go.Proofs.Tryz.prog 348 261 = true := by kernel_rfl
theorem agg_361 : aggT Go.Proofs.Tryz.prog 361 2 = true := by kernel_rfl
theorem agg_366 : aggT Go.Proofs.Tryz.prog 366 2 = true := by kernel_rfl
theorem agg_378 : aggT Go.Proofs.Tryz.prog 378 3 = true := by kernel_rfl
theorem agg_381 : aggT Go.Proofs.Tryz.prog 381 1 = true := by kernel_rfl
theorem agg_402 : aggT Go.Proofs.Tryz.prog 402 62 = true := by kernel_rfl
theorem agg_413 : aggT Go.Proofs.Tryz.prog 413 3 = true := by kernel_rfl
theorem agg_439 : aggT Go.Proofs.Tryz.prog 439 24 = true := by kernel_rfl
theorem agg_467 : aggT Go.Proofs.Tryz.prog 467 20 = true := by kernel_rfl
theorem agg_468 : aggT Go.Proofs.Tryz.prog 468 65 = true := by kernel_rfl
theorem agg_489 : aggT Go.Proofs.Tryz.prog 489 32 = true := by kernel_rfl
theorem agg_490 : aggT Go.Proofs.Tryz.prog 490 64 = true := by kernel_rfl
@[simp] theorem fa_24_0 (b o : Nat) : dry Go.Proofs.Tryz.prog (N.fieldA 24 (.pointer (some ⟨b, o, none⟩)) 0).sem = some (.value (.pointer (some ⟨b, o, none⟩))) := by kernel_rfl
@[simp] theorem fa_24_1 (b o : Nat) : dry Go.Proofs.Tryz.prog (N.fieldA 24 (.pointer (some ⟨b, o, none⟩)) 1).sem = some (.value (.pointer (some ⟨b, o + 1, none⟩))) := by kernel_rfl
@[simp] theorem fa_24_2 (b o : Nat) : dry Go.Proofs.Tryz.prog (N.fieldA 24 (.pointer (some ⟨b, o, none⟩)) 2).sem = some (.value (.pointer (some ⟨b, o + 2, none⟩))) := by kernel_rfl
@[simp] theorem fa_40_0 (b o : Nat) : dry Go.Proofs.Tryz.prog (N.fieldA 40 (.pointer (some ⟨b, o, none⟩)) 0).sem = some (.value (.pointer (some ⟨b, o, none⟩))) := by kernel_rfl
@[simp] theorem fa_40_1 (b o : Nat) : dry Go.Proofs.Tryz.prog (N.fieldA 40 (.pointer (some ⟨b, o, none⟩)) 1).sem = some (.value (.pointer (some ⟨b, o + 1, none⟩))) := by kernel_rfl
@[simp] theorem fa_40_2 (b o : Nat) : dry Go.Proofs.Tryz.prog (N.fieldA 40 (.pointer (some ⟨b, o, none⟩)) 2).sem = some (.value (.pointer (some ⟨b, o + 2, none⟩))) := by kernel_rfl
@[simp] theorem fa_40_3 (b o : Nat) : dry Go.Proofs.Tryz.prog (N.fieldA 40 (.pointer (some ⟨b, o, none⟩)) 3).sem = some (.value (.pointer (some ⟨b, o + 3, none⟩))) := by kernel_rfl
@[simp] theorem fa_40_4 (b o : Nat) : dry Go.Proofs.Tryz.prog (N.fieldA 40 (.pointer (some ⟨b, o, none⟩)) 4).sem = some (.value (.pointer (some ⟨b, o + 4, none⟩))) := by kernel_rfl
@[simp] theorem fa_43_0 (b o : Nat) : dry Go.Proofs.Tryz.prog (N.fieldA 43 (.pointer (some ⟨b, o, none⟩)) 0).sem = some (.value (.pointer (some ⟨b, o, none⟩))) := by kernel_rfl
@[simp] theorem fa_43_1 (b o : Nat) : dry Go.Proofs.Tryz.prog (N.fieldA 43 (.pointer (some ⟨b, o, none⟩)) 1).sem = some (.value (.pointer (some ⟨b, o + 1, none⟩))) := by kernel_rfl
@[simp] theorem fa_43_2 (b o : Nat) : dry Go.Proofs.Tryz.prog (N.fieldA 43 (.pointer (some ⟨b, o, none⟩)) 2).sem = some (.value (.pointer (some ⟨b, o + 2, none⟩))) := by kernel_rfl
@[simp] theorem fa_43_3 (b o : Nat) : dry Go.Proofs.Tryz.prog (N.fieldA 43 (.pointer (some ⟨b, o, none⟩)) 3).sem = some (.value (.pointer (some ⟨b, o + 3, none⟩))) := by kernel_rfl
@[simp] theorem fa_43_4 (b o : Nat) : dry Go.Proofs.Tryz.prog (N.fieldA 43 (.pointer (some ⟨b, o, none⟩)) 4).sem = some (.value (.pointer (some ⟨b, o + 4, none⟩))) := by kernel_rfl
@[simp] theorem fa_45_0 (b o : Nat) : dry Go.Proofs.Tryz.prog (N.fieldA 45 (.pointer (some ⟨b, o, none⟩)) 0).sem = some (.value (.pointer (some ⟨b, o, none⟩))) := by kernel_rfl
@[simp] theorem fa_45_1 (b o : Nat) : dry Go.Proofs.Tryz.prog (N.fieldA 45 (.pointer (some ⟨b, o, none⟩)) 1).sem = some (.value (.pointer (some ⟨b, o + 1, none⟩))) := by kernel_rfl
@[simp] theorem fa_45_2 (b o : Nat) : dry Go.Proofs.Tryz.prog (N.fieldA 45 (.pointer (some ⟨b, o, none⟩)) 2).sem = some (.value (.pointer (some ⟨b, o + 4, none⟩))) := by kernel_rfl
@[simp] theorem fa_45_3 (b o : Nat) : dry Go.Proofs.Tryz.prog (N.fieldA 45 (.pointer (some ⟨b, o, none⟩)) 3).sem = some (.value (.pointer (some ⟨b, o + 9, none⟩))) := by kernel_rfl
@[simp] theorem fa_45_4 (b o : Nat) : dry Go.Proofs.Tryz.prog (N.fieldA 45 (.pointer (some ⟨b, o, none⟩)) 4).sem = some (.value (.pointer (some ⟨b, o + 14, none⟩))) := by kernel_rfl
@[simp] theorem fa_45_5 (b o : Nat) : dry Go.Proofs.Tryz.prog (N.fieldA 45 (.pointer (some ⟨b, o, none⟩)) 5).sem = some (.value (.pointer (some ⟨b, o + 15, none⟩))) := by kernel_rfl
@[simp] theorem fa_45_6 (b o : Nat) : dry Go.Proofs.Tryz.prog (N.fieldA 45 (.pointer (some ⟨b, o, none⟩)) 6).sem = some (.value (.pointer (some ⟨b, o + 16, none⟩))) := by kernel_rfl
@[simp] theorem fa_50_0 (b o : Nat) : dry Go.Proofs.Tryz.prog (N.fieldA 50 (.pointer (some ⟨b, o, none⟩)) 0).sem = some (.value (.pointer (some ⟨b, o, none⟩))) := by kernel_rfl
@[simp] theorem fa_70_1 (b o : Nat) : dry Go.Proofs.Tryz.prog (N.fieldA 70 (.pointer (some ⟨b, o, none⟩)) 1).sem = some (.value (.pointer (some ⟨b, o + 1, none⟩))) := by kernel_rfl
@[simp] theorem fa_70_2 (b o : Nat) : dry Go.Proofs.Tryz.prog (N.fieldA 70 (.pointer (some ⟨b, o, none⟩)) 2).sem = some (.value (.pointer (some ⟨b, o + 9, none⟩))) := by kernel_rfl
@[simp] theorem fa_85_0 (b o : Nat) : dry Go.Proofs.Tryz.prog (N.fieldA 85 (.pointer (some ⟨b, o, none⟩)) 0).sem = some (.value (.pointer (some ⟨b, o, none⟩))) := by kernel_rfl
@[simp] theorem fa_85_1 (b o : Nat) : dry Go.Proofs.Tryz.prog (N.fieldA 85 (.pointer (some ⟨b, o, none⟩)) 1).sem = some (.value (.pointer (some ⟨b, o + 1, none⟩))) := by kernel_rfl
@[simp] theorem fa_94_0 (b o : Nat) : dry Go.Proofs.Tryz.prog (N.fieldA 94 (.pointer (some ⟨b, o, none⟩)) 0).sem = some (.value (.pointer (some ⟨b, o, none⟩))) := by kernel_rfl
@[simp] theorem fa_94_1 (b o : Nat) : dry Go.Proofs.Tryz.prog (N.fieldA 94 (.pointer (some ⟨b, o, none⟩)) 1).sem = some (.value (.pointer (some ⟨b, o + 1, none⟩))) := by kernel_rfl
@[simp] theorem fa_96_0 (b o : Nat) : dry Go.Proofs.Tryz.prog (N.fieldA 96 (.pointer (some ⟨b, o, none⟩)) 0).sem = some (.value (.pointer (some ⟨b, o, none⟩))) := by kernel_rfl
@[simp] theorem fa_96_1 (b o : Nat) : dry Go.Proofs.Tryz.prog (N.fieldA 96 (.pointer (some ⟨b, o, none⟩)) 1).sem = some (.value (.pointer (some ⟨b, o + 2, none⟩))) := by kernel_rfl
@[simp] theorem fa_96_2 (b o : Nat) : dry Go.Proofs.Tryz.prog (N.fieldA 96 (.pointer (some ⟨b, o, none⟩)) 2).sem = some (.value (.pointer (some ⟨b, o + 3, none⟩))) := by kernel_rfl
@[simp] theorem fa_96_3 (b o : Nat) : dry Go.Proofs.Tryz.prog (N.fieldA 96 (.pointer (some ⟨b, o, none⟩)) 3).sem = some (.value (.pointer (some ⟨b, o + 4, none⟩))) := by kernel_rfl
@[simp] theorem fa_98_0 (b o : Nat) : dry Go.Proofs.Tryz.prog (N.fieldA 98 (.pointer (some ⟨b, o, none⟩)) 0).sem = some (.value (.pointer (some ⟨b, o, none⟩))) := by kernel_rfl
@[simp] theorem fa_98_1 (b o : Nat) : dry Go.Proofs.Tryz.prog (N.fieldA 98 (.pointer (some ⟨b, o, none⟩)) 1).sem = some (.value (.pointer (some ⟨b, o + 1, none⟩))) := by kernel_rfl
@[simp] theorem fa_98_2 (b o : Nat) : dry Go.Proofs.Tryz.prog (N.fieldA 98 (.pointer (some ⟨b, o, none⟩)) 2).sem = some (.value (.pointer (some ⟨b, o + 2, none⟩))) := by kernel_rfl
@[simp] theorem fa_98_3 (b o : Nat) : dry Go.Proofs.Tryz.prog (N.fieldA 98 (.pointer (some ⟨b, o, none⟩)) 3).sem = some (.value (.pointer (some ⟨b, o + 3, none⟩))) := by kernel_rfl
@[simp] theorem fa_98_4 (b o : Nat) : dry Go.Proofs.Tryz.prog (N.fieldA 98 (.pointer (some ⟨b, o, none⟩)) 4).sem = some (.value (.pointer (some ⟨b, o + 4, none⟩))) := by kernel_rfl
@[simp] theorem fa_98_5 (b o : Nat) : dry Go.Proofs.Tryz.prog (N.fieldA 98 (.pointer (some ⟨b, o, none⟩)) 5).sem = some (.value (.pointer (some ⟨b, o + 5, none⟩))) := by kernel_rfl
@[simp] theorem fa_98_6 (b o : Nat) : dry Go.Proofs.Tryz.prog (N.fieldA 98 (.pointer (some ⟨b, o, none⟩)) 6).sem = some (.value (.pointer (some ⟨b, o + 6, none⟩))) := by kernel_rfl
@[simp] theorem fa_98_7 (b o : Nat) : dry Go.Proofs.Tryz.prog (N.fieldA 98 (.pointer (some ⟨b, o, none⟩)) 7).sem = some (.value (.pointer (some ⟨b, o + 7, none⟩))) := by kernel_rfl
@[simp] theorem fa_98_8 (b o : Nat) : dry Go.Proofs.Tryz.prog (N.fieldA 98 (.pointer (some ⟨b, o, none⟩)) 8).sem = some (.value (.pointer (some ⟨b, o + 8, none⟩))) := by kernel_rfl
@[simp] theorem fa_98_9 (b o : Nat) : dry Go.Proofs.Tryz.prog (N.fieldA 98 (.pointer (some ⟨b, o, none⟩)) 9).sem = some (.value (.pointer (some ⟨b, o + 9, none⟩))) := by kernel_rfl
@[simp] theorem fa_98_10 (b o : Nat) : dry Go.Proofs.Tryz.prog (N.fieldA 98 (.pointer (some ⟨b, o, none⟩)) 10).sem = some (.value (.pointer (some ⟨b, o + 10, none⟩))) := by kernel_rfl
@[simp] theorem fa_98_11 (b o : Nat) : dry Go.Proofs.Tryz.prog (N.fieldA 98 (.pointer (some ⟨b, o, none⟩)) 11).sem = some (.value (.pointer (some ⟨b, o + 11, none⟩))) := by kernel_rfl
@[simp] theorem fa_98_12 (b o : Nat) : dry Go.Proofs.Tryz.prog (N.fieldA 98 (.pointer (some ⟨b, o, none⟩)) 12).sem = some (.value (.pointer (some ⟨b, o + 12, none⟩))) := by kernel_rfl
@[simp] theorem fa_98_13 (b o : Nat) : dry Go.Proofs.Tryz.prog (N.fieldA 98 (.pointer (some ⟨b, o, none⟩)) 13).sem = some (.value (.pointer (some ⟨b, o + 13, none⟩))) := by kernel_rfl
@[simp] theorem fa_110_0 (b o : Nat) : dry Go.Proofs.Tryz.prog (N.fieldA 110 (.pointer (some ⟨b, o, none⟩)) 0).sem = some (.value (.pointer (some ⟨b, o, none⟩))) := by kernel_rfl
@[simp] theorem fa_110_1 (b o : Nat) : dry Go.Proofs.Tryz.prog (N.fieldA 110 (.pointer (some ⟨b, o, none⟩)) 1).sem = some (.value (.pointer (some ⟨b, o + 5, none⟩))) := by kernel_rfl
@[simp] theorem fa_130_14 (b o : Nat) : dry Go.Proofs.Tryz.prog (N.fieldA 130 (.pointer (some ⟨b, o, none⟩)) 14).sem = some (.value (.pointer (some ⟨b, o + 24, none⟩))) := by kernel_rfl
@[simp] theorem fa_164_0 (b o : Nat) : dry Go.Proofs.Tryz.prog (N.fieldA 164 (.pointer (some ⟨b, o, none⟩)) 0).sem = some (.value (.pointer (some ⟨b, o, none⟩))) := by kernel_rfl
@[simp] theorem fa_164_1 (b o : Nat) : dry Go.Proofs.Tryz.prog (N.fieldA 164 (.pointer (some ⟨b, o, none⟩)) 1).sem = some (.value (.pointer (some ⟨b, o + 1, none⟩))) := by kernel_rfl
@[simp] theorem fa_164_2 (b o : Nat) : dry Go.Proofs.Tryz.prog (N.fieldA 164 (.pointer (some ⟨b, o, none⟩)) 2).sem = some (.value (.pointer (some ⟨b, o + 2, none⟩))) := by kernel_rfl
@[simp] theorem fa_164_3 (b o : Nat) : dry Go.Proofs.Tryz.prog (N.fieldA 164 (.pointer (some ⟨b, o, none⟩)) 3).sem = some (.value (.pointer (some ⟨b, o + 3, none⟩))) := by kernel_rfl
@[simp] theorem fa_168_0 (b o : Nat) : dry Go.Proofs.Tryz.prog (N.fieldA 168 (.pointer (some ⟨b, o, none⟩)) 0).sem = some (.value (.pointer (some ⟨b, o, none⟩))) := by kernel_rfl
@[simp] theorem fa_168_1 (b o : Nat) : dry Go.Proofs.Tryz.prog (N.fieldA 168 (.pointer (some ⟨b, o, none⟩)) 1).sem = some (.value (.pointer (some ⟨b, o + 3, none⟩))) := by kernel_rfl
@[simp] theorem fa_168_2 (b o : Nat) : dry Go.Proofs.Tryz.prog (N.fieldA 168 (.pointer (some ⟨b, o, none⟩)) 2).sem = some (.value (.pointer (some ⟨b, o + 4, none⟩))) := by kernel_rfl
@[simp] theorem fa_168_3 (b o : Nat) : dry Go.Proofs.Tryz.prog (N.fieldA 168 (.pointer (some ⟨b, o, none⟩)) 3).sem = some (.value (.pointer (some ⟨b, o + 5, none⟩))) := by kernel_rfl
@[simp] theorem fa_168_4 (b o : Nat) : dry Go.Proofs.Tryz.prog (N.fieldA 168 (.pointer (some ⟨b, o, none⟩)) 4).sem = some (.value (.pointer (some ⟨b, o + 6, none⟩))) := by kernel_rfl
@[simp] theorem fa_186_0 (b o : Nat) : dry Go.Proofs.Tryz.prog (N.fieldA 186 (.pointer (some ⟨b, o, none⟩)) 0).sem = some (.value (.pointer (some ⟨b, o, none⟩))) := by kernel_rfl
@[simp] theorem fa_186_1 (b o : Nat) : dry Go.Proofs.Tryz.prog (N.fieldA 186 (.pointer (some ⟨b, o, none⟩)) 1).sem = some (.value (.pointer (some ⟨b, o + 1, none⟩))) := by kernel_rfl
@[simp] theorem fa_191_0 (b o : Nat) : dry Go.Proofs.Tryz.prog (N.fieldA 191 (.pointer (some ⟨b, o, none⟩)) 0).sem = some (.value (.pointer (some ⟨b, o, none⟩))) := by kernel_rfl
@[simp] theorem fa_193_0 (b o : Nat) : dry Go.Proofs.Tryz.prog (N.fieldA 193 (.pointer (some ⟨b, o, none⟩)) 0).sem = some (.value (.pointer (some ⟨b, o, none⟩))) := by kernel_rfl
@[simp] theorem fa_193_1 (b o : Nat) : dry Go.Proofs.Tryz.prog (N.fieldA 193 (.pointer (some ⟨b, o, none⟩)) 1).sem = some (.value (.pointer (some ⟨b, o + 3, none⟩))) := by kernel_rfl
@[simp] theorem fa_193_2 (b o : Nat) : dry Go.Proofs.Tryz.prog (N.fieldA 193 (.pointer (some ⟨b, o, none⟩)) 2).sem = some (.value (.pointer (some ⟨b, o + 4, none⟩))) := by kernel_rfl
@[simp] theorem fa_193_3 (b o : Nat) : dry Go.Proofs.Tryz.prog (N.fieldA 193 (.pointer (some ⟨b, o, none⟩)) 3).sem = some (.value (.pointer (some ⟨b, o + 5, none⟩))) := by kernel_rfl
@[simp] theorem fa_193_4 (b o : Nat) : dry Go.Proofs.Tryz.prog (N.fieldA 193 (.pointer (some ⟨b, o, none⟩)) 4).sem = some (.value (.pointer (some ⟨b, o + 6, none⟩))) := by kernel_rfl
@[simp] theorem fa_193_5 (b o : Nat) : dry Go.Proofs.Tryz.prog (N.fieldA 193 (.pointer (some ⟨b, o, none⟩)) 5).sem = some (.value (.pointer (some ⟨b, o + 8, none⟩))) := by kernel_rfl
@[simp] theorem fa_193_6 (b o : Nat) : dry Go.Proofs.Tryz.prog (N.fieldA 193 (.pointer (some ⟨b, o, none⟩)) 6).sem = some (.value (.pointer (some ⟨b, o + 9, none⟩))) := by kernel_rfl
@[simp] theorem fa_193_7 (b o : Nat) : dry Go.Proofs.Tryz.prog (N.fieldA 193 (.pointer (some ⟨b, o, none⟩)) 7).sem = some (.value (.pointer (some ⟨b, o + 10, none⟩))) := by kernel_rfl
@[simp] theorem fa_193_8 (b o : Nat) : dry Go.Proofs.Tryz.prog (N.fieldA 193 (.pointer (some ⟨b, o, none⟩)) 8).sem = some (.value (.pointer (some ⟨b, o + 11, none⟩))) := by kernel_rfl
@[simp] theorem fa_193_9 (b o : Nat) : dry Go.Proofs.Tryz.prog (N.fieldA 193 (.pointer (some ⟨b, o, none⟩)) 9).sem = some (.value (.pointer (some ⟨b, o + 12, none⟩))) := by kernel_rfl
@[simp] theorem fa_193_10 (b o : Nat) : dry Go.Proofs.Tryz.prog (N.fieldA 193 (.pointer (some ⟨b, o, none⟩)) 10).sem = some (.value (.pointer (some ⟨b, o + 13, none⟩))) := by kernel_rfl
@[simp] theorem fa_193_11 (b o : Nat) : dry Go.Proofs.Tryz.prog (N.fieldA 193 (.pointer (some ⟨b, o, none⟩)) 11).sem = some (.value (.pointer (some ⟨b, o + 14, none⟩))) := by kernel_rfl
@[simp] theorem fa_193_12 (b o : Nat) : dry Go.Proofs.Tryz.prog (N.fieldA 193 (.pointer (some ⟨b, o, none⟩)) 12).sem = some (.value (.pointer (some ⟨b, o + 15, none⟩))) := by kernel_rfl
@[simp] theorem fa_202_0 (b o : Nat) : dry Go.Proofs.Tryz.prog (N.fieldA 202 (.pointer (some ⟨b, o, none⟩)) 0).sem = some (.value (.pointer (some ⟨b, o, none⟩))) := by kernel_rfl
@[simp] theorem fa_202_1 (b o : Nat) : dry Go.Proofs.Tryz.prog (N.fieldA 202 (.pointer (some ⟨b, o, none⟩)) 1).sem = some (.value (.pointer (some ⟨b, o + 1, none⟩))) := by kernel_rfl
@[simp] theorem fa_214_0 (b o : Nat) : dry Go.Proofs.Tryz.prog (N.fieldA 214 (.pointer (some ⟨b, o, none⟩)) 0).sem = some (.value (.pointer (some ⟨b, o, none⟩))) := by kernel_rfl
@[simp] theorem fa_214_1 (b o : Nat) : dry Go.Proofs.Tryz.prog (N.fieldA 214 (.pointer (some ⟨b, o, none⟩)) 1).sem = some (.value (.pointer (some ⟨b, o + 1, none⟩))) := by kernel_rfl
@[simp] theorem fa_214_2 (b o : Nat) : dry Go.Proofs.Tryz.prog (N.fieldA 214 (.pointer (some ⟨b, o, none⟩)) 2).sem = some (.value (.pointer (some ⟨b, o + 2, none⟩))) := by kernel_rfl
@[simp] theorem fa_214_3 (b o : Nat) : dry Go.Proofs.Tryz.prog (N.fieldA 214 (.pointer (some ⟨b, o, none⟩)) 3).sem = some (.value (.pointer (some ⟨b, o + 3, none⟩))) := by kernel_rfl
@[simp] theorem fa_214_4 (b o : Nat) : dry Go.Proofs.Tryz.prog (N.fieldA 214 (.pointer (some ⟨b, o, none⟩)) 4).sem = some (.value (.pointer (some ⟨b, o + 4, none⟩))) := by kernel_rfl
@[simp] theorem fa_217_0 (b o : Nat) : dry Go.Proofs.Tryz.prog (N.fieldA 217 (.pointer (some ⟨b, o, none⟩)) 0).sem = some (.value (.pointer (some ⟨b, o, none⟩))) := by kernel_rfl
@[simp] theorem fa_217_1 (b o : Nat) : dry Go.Proofs.Tryz.prog (N.fieldA 217 (.pointer (some ⟨b, o, none⟩)) 1).sem = some (.value (.pointer (some ⟨b, o + 1, none⟩))) := by kernel_rfl
@[simp] theorem fa_220_0 (b o : Nat) : dry Go.Proofs.Tryz.prog (N.fieldA 220 (.pointer (some ⟨b, o, none⟩)) 0).sem = some (.value (.pointer (some ⟨b, o, none⟩))) := by kernel_rfl
@[simp] theorem fa_220_1 (b o : Nat) : dry Go.Proofs.Tryz.prog (N.fieldA 220 (.pointer (some ⟨b, o, none⟩)) 1).sem = some (.value (.pointer (some ⟨b, o + 1, none⟩))) := by kernel_rfl
@[simp] theorem fa_220_2 (b o : Nat) : dry Go.Proofs.Tryz.prog (N.fieldA 220 (.pointer (some ⟨b, o, none⟩)) 2).sem = some (.value (.pointer (some ⟨b, o + 3, none⟩))) := by kernel_rfl
@[simp] theorem fa_220_3 (b o : Nat) : dry Go.Proofs.Tryz.prog (N.fieldA 220 (.pointer (some ⟨b, o, none⟩)) 3).sem = some (.value (.pointer (some ⟨b, o + 4, none⟩))) := by kernel_rfl
@[simp] theorem fa_229_0 (b o : Nat) : dry Go.Proofs.Tryz.prog (N.fieldA 229 (.pointer (some ⟨b, o, none⟩)) 0).sem = some (.value (.pointer (some ⟨b, o, none⟩))) := by kernel_rfl
@[simp] theorem fa_229_1 (b o : Nat) : dry Go.Proofs.Tryz.prog (N.fieldA 229 (.pointer (some ⟨b, o, none⟩)) 1).sem = some (.value (.pointer (some ⟨b, o + 1, none⟩))) := by kernel_rfl
@[simp] theorem fa_229_2 (b o : Nat) : dry Go.Proofs.Tryz.prog (N.fieldA 229 (.pointer (some ⟨b, o, none⟩)) 2).sem = some (.value (.pointer (some ⟨b, o + 2, none⟩))) := by kernel_rfl
@[simp] theorem fa_229_3 (b o : Nat) : dry Go.Proofs.Tryz.prog (N.fieldA 229 (.pointer (some ⟨b, o, none⟩)) 3).sem = some (.value (.pointer (some ⟨b, o + 3, none⟩))) := by kernel_rfl
@[simp] theorem fa_229_4 (b o : Nat) : dry Go.Proofs.Tryz.prog (N.fieldA 229 (.pointer (some ⟨b, o, none⟩)) 4).sem = some (.value (.pointer (some ⟨b, o + 4, none⟩))) := by kernel_rfl
@[simp] theorem fa_229_5 (b o : Nat) : dry Go.Proofs.Tryz.prog (N.fieldA 229 (.pointer (some ⟨b, o, none⟩)) 5).sem = some (.value (.pointer (some ⟨b, o + 5, none⟩))) := by kernel_rfl
@[simp] theorem fa_234_0 (b o : Nat) : dry Go.Proofs.Tryz.prog (N.fieldA 234 (.pointer (some ⟨b, o, none⟩)) 0).sem = some (.value (.pointer (some ⟨b, o, none⟩))) := by kernel_rfl
@[simp] theorem fa_238_0 (b o : Nat) : dry Go.Proofs.Tryz.prog (N.fieldA 238 (.pointer (some ⟨b, o, none⟩)) 0).sem = some (.value (.pointer (some ⟨b, o, none⟩))) := by kernel_rfl
@[simp] theorem fa_238_1 (b o : Nat) : dry Go.Proofs.Tryz.prog (N.fieldA 238 (.pointer (some ⟨b, o, none⟩)) 1).sem = some (.value (.pointer (some ⟨b, o + 1, none⟩))) := by kernel_rfl
@[simp] theorem fa_238_2 (b o : Nat) : dry Go.Proofs.Tryz.prog (N.fieldA 238 (.pointer (some ⟨b, o, none⟩)) 2).sem = some (.value (.pointer (some ⟨b, o + 2, none⟩))) := by kernel_rfl
@[simp] theorem fa_238_3 (b o : Nat) : dry Go.Proofs.Tryz.prog (N.fieldA 238 (.pointer (some ⟨b, o, none⟩)) 3).sem = some (.value (.pointer (some ⟨b, o + 3, none⟩))) := by kernel_rfl
@[simp] theorem fa_251_1 (b o : Nat) : dry Go.Proofs.Tryz.prog (N.fieldA 251 (.pointer (some ⟨b, o, none⟩)) 1).sem = some (.value (.pointer (some ⟨b, o + 1, none⟩))) := by kernel_rfl
@[simp] theorem fa_251_2 (b o : Nat) : dry Go.Proofs.Tryz.prog (N.fieldA 251 (.pointer (some ⟨b, o, none⟩)) 2).sem = some (.value (.pointer (some ⟨b, o + 2, none⟩))) := by kernel_rfl
@[simp] theorem fa_259_0 (b o : Nat) : dry Go.Proofs.Tryz.prog (N.fieldA 259 (.pointer (some ⟨b, o, none⟩)) 0).sem = some (.value (.pointer (some ⟨b, o, none⟩))) := by kernel_rfl
@[simp] theorem fa_259_1 (b o : Nat) : dry Go.Proofs.Tryz.prog (N.fieldA 259 (.pointer (some ⟨b, o, none⟩)) 1).sem = some (.value (.pointer (some ⟨b, o + 1, none⟩))) := by kernel_rfl
@[simp] theorem fa_259_2 (b o : Nat) : dry Go.Proofs.Tryz.prog (N.fieldA 259 (.pointer (some ⟨b, o, none⟩)) 2).sem = some (.value (.pointer (some ⟨b, o + 2, none⟩))) := by kernel_rfl
@[simp] theorem fa_259_3 (b o : Nat) : dry Go.Proofs.Tryz.prog (N.fieldA 259 (.pointer (some ⟨b, o, none⟩)) 3).sem = some (.value (.pointer (some ⟨b, o + 3, none⟩))) := by kernel_rfl
@[simp] theorem fa_259_4 (b o : Nat) : dry Go.Proofs.Tryz.prog (N.fieldA 259 (.pointer (some ⟨b, o, none⟩)) 4).sem = some (.value (.pointer (some ⟨b, o + 4, none⟩))) := by kernel_rfl
@[simp] theorem fa_282_0 (b o : Nat) : dry Go.Proofs.Tryz.prog (N.fieldA 282 (.pointer (some ⟨b, o, none⟩)) 0).sem = some (.value (.pointer (some ⟨b, o, none⟩))) := by kernel_rfl
@[simp] theorem fa_282_1 (b o : Nat) : dry Go.Proofs.Tryz.prog (N.fieldA 282 (.pointer (some ⟨b, o, none⟩)) 1).sem = some (.value (.pointer (some ⟨b, o + 1, none⟩))) := by kernel_rfl
@[simp] theorem fa_303_0 (b o : Nat) : dry Go.Proofs.Tryz.prog (N.fieldA 303 (.pointer (some ⟨b, o, none⟩)) 0).sem = some (.value (.pointer (some ⟨b, o, none⟩))) := by kernel_rfl
@[simp] theorem fa_303_1 (b o : Nat) : dry Go.Proofs.Tryz.prog (N.fieldA 303 (.pointer (some ⟨b, o, none⟩)) 1).sem = some (.value (.pointer (some ⟨b, o + 1, none⟩))) := by kernel_rfl
@[simp] theorem fa_315_0 (b o : Nat) : dry Go.Proofs.Tryz.prog (N.fieldA 315 (.pointer (some ⟨b, o, none⟩)) 0).sem = some (.value (.pointer (some ⟨b, o, none⟩))) := by kernel_rfl
@[simp] theorem fa_315_1 (b o : Nat) : dry Go.Proofs.Tryz.prog (N.fieldA 315 (.pointer (some ⟨b, o, none⟩)) 1).sem = some (.value (.pointer (some ⟨b, o + 1, none⟩))) := by kernel_rfl
@[simp] theorem fa_315_2 (b o : Nat) : dry Go.Proofs.Tryz.prog (N.fieldA 315 (.pointer (some ⟨b, o, none⟩)) 2).sem = some (.value (.pointer (some ⟨b, o + 2, none⟩))) := by kernel_rfl
@[simp] theorem fa_320_0 (b o : Nat) : dry Go.Proofs.Tryz.prog (N.fieldA 320 (.pointer (some ⟨b, o, none⟩)) 0).sem = some (.value (.pointer (some ⟨b, o, none⟩))) := by kernel_rfl
@[simp] theorem fa_320_1 (b o : Nat) : dry Go.Proofs.Tryz.prog (N.fieldA 320 (.pointer (some ⟨b, o, none⟩)) 1).sem = some (.value (.pointer (some ⟨b, o + 1, none⟩))) := by kernel_rfl
@[simp] theorem fa_339_0 (b o : Nat) : dry Go.Proofs.Tryz.prog (N.fieldA 339 (.pointer (some ⟨b, o, none⟩)) 0).sem = some (.value (.pointer (some ⟨b, o, none⟩))) := by kernel_rfl
@[simp] theorem fa_339_1 (b o : Nat) : dry Go.Proofs.Tryz.prog (N.fieldA 339 (.pointer (some ⟨b, o, none⟩)) 1).sem = some (.value (.pointer (some ⟨b, o + 1, none⟩))) := by kernel_rfl
@[simp] theorem fa_341_0 (b o : Nat) : dry Go.Proofs.Tryz.prog (N.fieldA 341 (.pointer (some ⟨b, o, none⟩)) 0).sem = some (.value (.pointer (some ⟨b, o, none⟩))) := by kernel_rfl
@[simp] theorem fa_343_0 (b o : Nat) : dry Go.Proofs.Tryz.prog (N.fieldA 343 (.pointer (some ⟨b, o, none⟩)) 0).sem = some (.value (.pointer (some ⟨b, o, none⟩))) := by kernel_rfl
@[simp] theorem fa_343_1 (b o : Nat) : dry Go.Proofs.Tryz.prog (N.fieldA 343 (.pointer (some ⟨b, o, none⟩)) 1).sem = some (.value (.pointer (some ⟨b, o + 1, none⟩))) := by kernel_rfl
@[simp] theorem fa_348_0 (b o : Nat) : dry Go.Proofs.Tryz.prog (N.fieldA 348 (.pointer (some ⟨b, o, none⟩)) 0).sem = some (.value (.pointer (some ⟨b, o, none⟩))) := by kernel_rfl
@[simp] theorem fa_348_1 (b o : Nat) : dry Go.Proofs.Tryz.prog (N.fieldA 348 (.pointer (some ⟨b, o, none⟩)) 1).sem = some (.value (.pointer (some ⟨b, o + 256, none⟩))) := by kernel_rfl
@[simp] theorem fa_348_2 (b o : Nat) : dry Go.Proofs.Tryz.prog (N.fieldA 348 (.pointer (some ⟨b, o, none⟩)) 2).sem = some (.value (.pointer (some ⟨b, o + 257, none⟩))) := by kernel_rfl
@[simp] theorem fa_348_3 (b o : Nat) : dry Go.Proofs.Tryz.prog (N.fieldA 348 (.pointer (some ⟨b, o, none⟩)) 3).sem = some (.value (.pointer (some ⟨b, o + 258, none⟩))) := by kernel_rfl
@[simp] theorem fa_348_4 (b o : Nat) : dry Go.Proofs.Tryz.prog (N.fieldA 348 (.pointer (some ⟨b, o, none⟩)) 4).sem = some (.value (.pointer (some ⟨b, o + 259, none⟩))) := by kernel_rfl
@[simp] theorem fa_348_5 (b o : Nat) : dry Go.Proofs.Tryz.prog (N.fieldA 348 (.pointer (some ⟨b, o, none⟩)) 5).sem = some (.value (.pointer (some ⟨b, o + 260, none⟩))) := by kernel_rfl
@[simp] theorem fa_361_0 (b o : Nat) : dry Go.Proofs.Tryz.prog (N.fieldA 361 (.pointer (some ⟨b, o, none⟩)) 0).sem = some (.value (.pointer (some ⟨b, o, none⟩))) := by kernel_rfl
@[simp] theorem fa_361_1 (b o : Nat) : dry Go.Proofs.Tryz.prog (N.fieldA 361 (.pointer (some ⟨b, o, none⟩)) 1).sem = some (.value (.pointer (some ⟨b, o + 1, none⟩))) := by kernel_rfl
@[simp] theorem fa_366_1 (b o : Nat) : dry Go.Proofs.Tryz.prog (N.fieldA 366 (.pointer (some ⟨b, o, none⟩)) 1).sem = some (.value (.pointer (some ⟨b, o + 1, none⟩))) := by kernel_rfl
@[simp] theorem fa_378_0 (b o : Nat) : dry Go.Proofs.Tryz.prog (N.fieldA 378 (.pointer (some ⟨b, o, none⟩)) 0).sem = some (.value (.pointer (some ⟨b, o, none⟩))) := by kernel_rfl
@[simp] theorem fa_378_1 (b o : Nat) : dry Go.Proofs.Tryz.prog (N.fieldA 378 (.pointer (some ⟨b, o, none⟩)) 1).sem = some (.value (.pointer (some ⟨b, o + 1, none⟩))) := by kernel_rfl
@[simp] theorem fa_378_2 (b o : Nat) : dry Go.Proofs.Tryz.prog (N.fieldA 378 (.pointer (some ⟨b, o, none⟩)) 2).sem = some (.value (.pointer (some ⟨b, o + 2, none⟩))) := by kernel_rfl
@[simp] theorem fa_381_0 (b o : Nat) : dry Go.Proofs.Tryz.prog (N.fieldA 381 (.pointer (some ⟨b, o, none⟩)) 0).sem = some (.value (.pointer (some ⟨b, o, none⟩))) := by kernel_rfl
@[simp] theorem fa_413_0 (b o : Nat) : dry Go.Proofs.Tryz.prog (N.fieldA 413 (.pointer (some ⟨b, o, none⟩)) 0).sem = some (.value (.pointer (some ⟨b, o, none⟩))) := by kernel_rfl
@[simp] theorem fa_413_1 (b o : Nat) : dry Go.Proofs.Tryz.prog (N.fieldA 413 (.pointer (some ⟨b, o, none⟩)) 1).sem = some (.value (.pointer (some ⟨b, o + 1, none⟩))) := by kernel_rfl
@[simp] theorem fa_413_2 (b o : Nat) : dry Go.Proofs.Tryz.prog (N.fieldA 413 (.pointer (some ⟨b, o, none⟩)) 2).sem = some (.value (.pointer (some ⟨b, o + 2, none⟩))) := by kernel_rfl
@[simp] theorem zero_3 : zeroT Go.Proofs.Tryz.prog 3 = some (.int .i64 0) := by kernel_rfl
@[simp] theorem zero_4 : zeroT Go.Proofs.Tryz.prog 4 = some (.bool false) := by kernel_rfl
@[simp] theorem zero_24 : zeroT Go.Proofs.Tryz.prog 24 = some (.agg #[.int .i64 0, .int .i64 0, .int .i64 0]) := by kernel_rfl
@[simp] theorem zero_35 : zeroT Go.Proofs.Tryz.prog 35 = some (.agg #[.int .i64 0, .int .i64 0, .int .i64 0, .int .i64 0, .int .i64 0]) := by kernel_rfl
@[simp] theorem zero_40 : zeroT Go.Proofs.Tryz.prog 40 = some (.agg #[.int .u8 0, .int .u8 0, .int .i64 0, .int .i64 0, .int .i64 0]) := by kernel_rfl
@[simp] theorem zero_43 : zeroT Go.Proofs.Tryz.prog 43 = some (.agg #[.int .i64 0, .int .i64 0, .int .i64 0, .int .i64 0, .int .i64 0]) := by kernel_rfl
@[simp] theorem zero_45 : zeroT Go.Proofs.Tryz.prog 45 = some (.agg #[.int .u8 0, .int .i64 0, .int .i64 0, .int .i64 0, .int .u8 0, .int .u8 0, .int .i64 0, .int .i64 0, .int .i64 0, .int .i64 0, .int .i64 0, .int .i64 0, .int .i64 0, .int .i64 0, .int .i64 0, .int .i32 0, .string ByteArray.empty]) := by kernel_rfl
@[simp] theorem zero_50 : zeroT Go.Proofs.Tryz.prog 50 = some (.agg #[.int .i64 0, .int .i64 0, .int .i64 0, .int .i64 0, .int .u8 0, .int .u8 0, .int .i64 0, .int .i64 0, .int .i64 0, .int .i64 0, .string ByteArray.empty]) := by kernel_rfl
@[simp] theorem zero_70 : zeroT Go.Proofs.Tryz.prog 70 = some (.agg #[.int .i64 0, .int .i64 0, .int .i64 0, .int .i64 0, .int .i64 0, .int .i64 0, .int .i64 0, .int .i64 0, .int .i64 0, .int .i64 0]) := by kernel_rfl
@[simp] theorem zero_81 : zeroT Go.Proofs.Tryz.prog 81 = some (.int .u64 0) := by kernel_rfl
@[simp] theorem zero_82 : zeroT Go.Proofs.Tryz.prog 82 = some (.int .u64 0) := by kernel_rfl
@[simp] theorem zero_96 : zeroT Go.Proofs.Tryz.prog 96 = some (.agg #[.int .i64 0, .int .i64 0, .int .i64 0, .int .u64 0, .int .i64 0]) := by kernel_rfl
@[simp] theorem zero_98 : zeroT Go.Proofs.Tryz.prog 98 = some (.agg #[.int .i64 0, .int .i64 0, .int .i64 0, .int .i64 0, .int .i64 0, .int .i64 0, .int .i64 0, .bool false, .bool false, .slice none 0 0, .int .i64 0, .int .i64 0, .int .i64 0, .int .i64 0, .int .i64 0, .int .i64 0, .int .u64 0, .int .i64 0]) := by kernel_rfl
@[simp] theorem zero_99 : zeroT Go.Proofs.Tryz.prog 99 = some (.agg #[.int .i64 0, .int .i64 0, .int .i64 0, .int .i64 0, .int .i64 0, .int .i64 0, .int .i64 0, .bool false, .bool false, .slice none 0 0, .int .i64 0, .int .i64 0, .int .i64 0, .int .i64 0, .int .i64 0, .int .i64 0, .int .u64 0, .int .i64 0, .int .i64 0, .int .i64 0, .int .i64 0, .int .i64 0, .int .i64 0, .int .i64 0, .int .i64 0, .bool false, .bool false, .slice none 0 0, .int .i64 0, .int .i64 0, .int .i64 0, .int .i64 0, .int .i64 0, .int .i64 0, .int .u64 0, .int .i64 0, .int .i64 0, .int .i64 0, .int .i64 0, .int .i64 0, .int .i64 0, .int .i64 0, .int .i64 0, .bool false, .bool false, .slice none 0 0, .int .i64 0, .int .i64 0, .int .i64 0, .int .i64 0, .int .i64 0, .int .i64 0, .int .u64 0, .int .i64 0, .int .i64 0, .int .i64 0, .int .i64 0, .int .i64 0, .int .i64 0, .int .i64 0, .int .i64 0, .bool false, .bool false, .slice none 0 0, .int .i64 0, .int .i64 0, .int .i64 0, .int .i64 0, .int .i64 0, .int .i64 0, .int .u64 0, .int .i64 0, .int .i64 0, .int .i64 0, .int .i64 0, .int .i64 0, .int .i64 0, .int .i64 0, .int .i64 0, .bool false, .bool false, .slice none 0 0, .int .i64 0, .int .i64 0, .int .i64 0, .int .i64 0, .int .i64 0, .int .i64 0, .int .u64 0, .int .i64 0, .int .i64 0, .int .i64 0, .int .i64 0, .int .i64 0, .int .i64 0, .int .i64 0, .int .i64 0, .bool false, .bool false, .slice none 0 0, .int .i64 0, .int .i64 0, .int .i64 0, .int .i64 0, .int .i64 0, .int .i64 0, .int .u64 0, .int .i64 0, .int .i64 0, .int .i64 0, .int .i64 0, .int .i64 0, .int .i64 0, .int .i64 0, .int .i64 0, .bool false, .bool false, .slice none 0 0, .int .i64 0, .int .i64 0, .int .i64 0, .int .i64 0, .int .i64 0, .int .i64 0, .int .u64 0, .int .i64 0, .int .i64 0, .int .i64 0, .int .i64 0, .int .i64 0, .int .i64 0, .int .i64 0, .int .i64 0, .bool false, .bool false, .slice none 0 0, .int .i64 0, .int .i64 0, .int .i64 0, .int .i64 0, .int .i64 0, .int .i64 0, .int .u64 0, .int .i64 0]) := by kernel_rfl
@[simp] theorem zero_100 : zeroT Go.Proofs.Tryz.prog 100 = some (.agg #[.bool false, .bool false, .bool false, .bool false, .bool false, .bool false, .bool false, .bool false]) := by kernel_rfl
@[simp] theorem zero_110 : zeroT Go.Proofs.Tryz.prog 110 = some (.agg #[.int .i64 0, .int .i64 0, .int .i64 0, .int .i64 0, .int .i64 0, .int .i64 0]) := by kernel_rfl
@[simp] theorem zero_130 : zeroT Go.Proofs.Tryz.prog 130 = some (.agg #[.int .i64 0, .int .i64 0, .int .i64 0, .slice none 0 0, .slice none 0 0, .int .i64 0, .slice none 0 0, .slice none 0 0, .slice none 0 0, .slice none 0 0, .slice none 0 0, .int .i64 0, .int .i64 0, .slice none 0 0, .int .u64 0, .slice none 0 0, .slice none 0 0, .int .i64 0, .int .i64 0, .slice none 0 0, .slice none 0 0, .slice none 0 0, .int .i64 0, .slice none 0 0, .slice none 0 0]) := by kernel_rfl
@[simp] theorem zero_138 : zeroT Go.Proofs.Tryz.prog 138 = some (.agg #[.int .i64 0, .int .i64 0, .int .i64 0, .int .i64 0, .int .i64 0]) := by kernel_rfl
@[simp] theorem zero_164 : zeroT Go.Proofs.Tryz.prog 164 = some (.agg #[.int .i64 0, .int .i64 0, .int .i64 0, .map none]) := by kernel_rfl
@[simp] theorem zero_217 : zeroT Go.Proofs.Tryz.prog 217 = some (.agg #[.int .i64 0, .int .i64 0]) := by kernel_rfl
@[simp] theorem zero_251 : zeroT Go.Proofs.Tryz.prog 251 = some (.agg #[.string ByteArray.empty, .int .u64 0, .int .u64 0]) := by kernel_rfl
@[simp] theorem zero_282 : zeroT Go.Proofs.Tryz.prog 282 = some (.agg #[.pointer none, .slice none 0 0]) := by kernel_rfl
@[simp] theorem zero_303 : zeroT Go.Proofs.Tryz.prog 303 = some (.agg #[.bool false, .int .i64 0]) := by kernel_rfl
@[simp] theorem zero_310 : zeroT Go.Proofs.Tryz.prog 310 = some (.agg #[]) := by kernel_rfl
@[simp] theorem zero_366 : zeroT Go.Proofs.Tryz.prog 366 = some (.agg #[.string ByteArray.empty, .int .i64 0]) := by kernel_rfl
@[simp] theorem zero_378 : zeroT Go.Proofs.Tryz.prog 378 = some (.agg #[.int .i64 0, .bool false, .bool false]) := by kernel_rfl
@[simp] theorem zero_381 : zeroT Go.Proofs.Tryz.prog 381 = some (.agg #[.slice none 0 0]) := by kernel_rfl
@[simp] theorem zero_413 : zeroT Go.Proofs.Tryz.prog 413 = some (.agg #[.int .i64 0, .int .u64 0, .int .i64 0]) := by kernel_rfl
@[simp] theorem zero_439 : zeroT Go.Proofs.Tryz.prog 439 = some (.agg #[.int .u8 0, .int .u8 0, .int .u8 0, .int .u8 0, .int .u8 0, .int .u8 0, .int .u8 0, .int .u8 0, .int .u8 0, .int .u8 0, .int .u8 0, .int .u8 0, .int .u8 0, .int .u8 0, .int .u8 0, .int .u8 0, .int .u8 0, .int .u8 0, .int .u8 0, .int .u8 0, .int .u8 0, .int .u8 0, .int .u8 0, .int .u8 0]) := by kernel_rfl
@[simp] theorem zero_468 : zeroT Go.Proofs.Tryz.prog 468 = some (.agg #[.int .u8 0, .int .u8 0, .int .u8 0, .int .u8 0, .int .u8 0, .int .u8 0, .int .u8 0, .int .u8 0, .int .u8 0, .int .u8 0, .int .u8 0, .int .u8 0, .int .u8 0, .int .u8 0, .int .u8 0, .int .u8 0, .int .u8 0, .int .u8 0, .int .u8 0, .int .u8 0, .int .u8 0, .int .u8 0, .int .u8 0, .int .u8 0, .int .u8 0, .int .u8 0, .int .u8 0, .int .u8 0, .int .u8 0, .int .u8 0, .int .u8 0, .int .u8 0, .int .u8 0, .int .u8 0, .int .u8 0, .int .u8 0, .int .u8 0, .int .u8 0, .int .u8 0, .int .u8 0, .int .u8 0, .int .u8 0, .int .u8 0, .int .u8 0, .int .u8 0, .int .u8 0, .int .u8 0, .int .u8 0, .int .u8 0, .int .u8 0, .int .u8 0, .int .u8 0, .int .u8 0, .int .u8 0, .int .u8 0, .int .u8 0, .int .u8 0, .int .u8 0, .int .u8 0, .int .u8 0, .int .u8 0, .int .u8 0, .int .u8 0, .int .u8 0, .int .u8 0]) := by kernel_rfl
@[simp] theorem zero_505 : zeroT Go.Proofs.Tryz.prog 505 = some (.int .u64 0) := by kernel_rfl
@[simp] theorem build_24_0_1_2 (x0 : Int) (x1 : Int) (x2 : Int) : dry Go.Proofs.Tryz.prog (N.build 24 #[(0, (.int .i64 x0)), (1, (.int .i64 x1)), (2, (.int .i64 x2))]).sem = some (.value (.agg #[.int .i64 x0, .int .i64 x1, .int .i64 x2])) := by kernel_rfl
@[simp] theorem build_40_  : dry Go.Proofs.Tryz.prog (N.build 40 #[]).sem = some (.value (.agg #[.int .u8 0, .int .u8 0, .int .i64 0, .int .i64 0, .int .i64 0])) := by kernel_rfl
@[simp] theorem build_40_1_3 (x1 : Int) (x3 : Int) : dry Go.Proofs.Tryz.prog (N.build 40 #[(1, (.int .u8 x1)), (3, (.int .i64 x3))]).sem = some (.value (.agg #[.int .u8 0, .int .u8 x1, .int .i64 0, .int .i64 x3, .int .i64 0])) := by kernel_rfl
@[simp] theorem build_40_2 (x2 : Int) : dry Go.Proofs.Tryz.prog (N.build 40 #[(2, (.int .i64 x2))]).sem = some (.value (.agg #[.int .u8 0, .int .u8 0, .int .i64 x2, .int .i64 0, .int .i64 0])) := by kernel_rfl
@[simp] theorem build_40_2_1 (x1 : Int) (x2 : Int) : dry Go.Proofs.Tryz.prog (N.build 40 #[(2, (.int .i64 x2)), (1, (.int .u8 x1))]).sem = some (.value (.agg #[.int .u8 0, .int .u8 x1, .int .i64 x2, .int .i64 0, .int .i64 0])) := by kernel_rfl
@[simp] theorem build_40_2_1_3 (x1 : Int) (x2 : Int) (x3 : Int) : dry Go.Proofs.Tryz.prog (N.build 40 #[(2, (.int .i64 x2)), (1, (.int .u8 x1)), (3, (.int .i64 x3))]).sem = some (.value (.agg #[.int .u8 0, .int .u8 x1, .int .i64 x2, .int .i64 x3, .int .i64 0])) := by kernel_rfl
@[simp] theorem build_43_  : dry Go.Proofs.Tryz.prog (N.build 43 #[]).sem = some (.value (.agg #[.int .i64 0, .int .i64 0, .int .i64 0, .int .i64 0, .int .i64 0])) := by kernel_rfl
@[simp] theorem build_43_0 (x0 : Int) : dry Go.Proofs.Tryz.prog (N.build 43 #[(0, (.int .i64 x0))]).sem = some (.value (.agg #[.int .i64 x0, .int .i64 0, .int .i64 0, .int .i64 0, .int .i64 0])) := by kernel_rfl
@[simp] theorem build_43_0_1_2_3_4 (x0 : Int) (x1 : Int) (x2 : Int) (x3 : Int) (x4 : Int) : dry Go.Proofs.Tryz.prog (N.build 43 #[(0, (.int .i64 x0)), (1, (.int .i64 x1)), (2, (.int .i64 x2)), (3, (.int .i64 x3)), (4, (.int .i64 x4))]).sem = some (.value (.agg #[.int .i64 x0, .int .i64 x1, .int .i64 x2, .int .i64 x3, .int .i64 x4])) := by kernel_rfl
@[simp] theorem build_43_0_2_3 (x0 : Int) (x2 : Int) (x3 : Int) : dry Go.Proofs.Tryz.prog (N.build 43 #[(0, (.int .i64 x0)), (2, (.int .i64 x2)), (3, (.int .i64 x3))]).sem = some (.value (.agg #[.int .i64 x0, .int .i64 0, .int .i64 x2, .int .i64 x3, .int .i64 0])) := by kernel_rfl
@[simp] theorem build_43_1 (x1 : Int) : dry Go.Proofs.Tryz.prog (N.build 43 #[(1, (.int .i64 x1))]).sem = some (.value (.agg #[.int .i64 0, .int .i64 x1, .int .i64 0, .int .i64 0, .int .i64 0])) := by kernel_rfl
@[simp] theorem build_50_  : dry Go.Proofs.Tryz.prog (N.build 50 #[]).sem = some (.value (.agg #[.int .i64 0, .int .i64 0, .int .i64 0, .int .i64 0, .int .u8 0, .int .u8 0, .int .i64 0, .int .i64 0, .int .i64 0, .int .i64 0, .string ByteArray.empty])) := by kernel_rfl
@[simp] theorem build_50_0 (x0 : Int) : dry Go.Proofs.Tryz.prog (N.build 50 #[(0, (.int .i64 x0))]).sem = some (.value (.agg #[.int .i64 x0, .int .i64 0, .int .i64 0, .int .i64 0, .int .u8 0, .int .u8 0, .int .i64 0, .int .i64 0, .int .i64 0, .int .i64 0, .string ByteArray.empty])) := by kernel_rfl
@[simp] theorem build_50_0_1_2_3 (x0 : Int) (x1 : Int) (x2 : Int) (x3 : Int) : dry Go.Proofs.Tryz.prog (N.build 50 #[(0, (.int .i64 x0)), (1, (.int .i64 x1)), (2, (.int .i64 x2)), (3, (.int .i64 x3))]).sem = some (.value (.agg #[.int .i64 x0, .int .i64 x1, .int .i64 x2, .int .i64 x3, .int .u8 0, .int .u8 0, .int .i64 0, .int .i64 0, .int .i64 0, .int .i64 0, .string ByteArray.empty])) := by kernel_rfl
@[simp] theorem build_50_0_4 (x0 : Int) (x4f0 : Int) (x4f1 : Int) (x4f2 : Int) (x4f3 : Int) (x4f4 : Int) : dry Go.Proofs.Tryz.prog (N.build 50 #[(0, (.int .i64 x0)), (4, (.agg #[.int .u8 x4f0, .int .u8 x4f1, .int .i64 x4f2, .int .i64 x4f3, .int .i64 x4f4]))]).sem = some (.value (.agg #[.int .i64 x0, .int .i64 0, .int .i64 0, .int .i64 0, .int .u8 x4f0, .int .u8 x4f1, .int .i64 x4f2, .int .i64 x4f3, .int .i64 x4f4, .int .i64 0, .string ByteArray.empty])) := by kernel_rfl
@[simp] theorem build_50_0_5 (x0 : Int) (x5 : Int) : dry Go.Proofs.Tryz.prog (N.build 50 #[(0, (.int .i64 x0)), (5, (.int .i64 x5))]).sem = some (.value (.agg #[.int .i64 x0, .int .i64 0, .int .i64 0, .int .i64 0, .int .u8 0, .int .u8 0, .int .i64 0, .int .i64 0, .int .i64 0, .int .i64 x5, .string ByteArray.empty])) := by kernel_rfl
@[simp] theorem build_50_0_6 (x0 : Int) (x6 : ByteArray) : dry Go.Proofs.Tryz.prog (N.build 50 #[(0, (.int .i64 x0)), (6, (.string x6))]).sem = some (.value (.agg #[.int .i64 x0, .int .i64 0, .int .i64 0, .int .i64 0, .int .u8 0, .int .u8 0, .int .i64 0, .int .i64 0, .int .i64 0, .int .i64 0, .string x6])) := by kernel_rfl
@[simp] theorem build_70_  : dry Go.Proofs.Tryz.prog (N.build 70 #[]).sem = some (.value (.agg #[.int .i64 0, .int .i64 0, .int .i64 0, .int .i64 0, .int .i64 0, .int .i64 0, .int .i64 0, .int .i64 0, .int .i64 0, .int .i64 0])) := by kernel_rfl
@[simp] theorem build_70_0 (x0 : Int) : dry Go.Proofs.Tryz.prog (N.build 70 #[(0, (.int .i64 x0))]).sem = some (.value (.agg #[.int .i64 x0, .int .i64 0, .int .i64 0, .int .i64 0, .int .i64 0, .int .i64 0, .int .i64 0, .int .i64 0, .int .i64 0, .int .i64 0])) := by kernel_rfl
@[simp] theorem build_85_  : dry Go.Proofs.Tryz.prog (N.build 85 #[]).sem = some (.value (.agg #[.int .u8 0, .int .i64 0])) := by kernel_rfl
@[simp] theorem build_85_0_1 (x0 : Int) (x1 : Int) : dry Go.Proofs.Tryz.prog (N.build 85 #[(0, (.int .u8 x0)), (1, (.int .i64 x1))]).sem = some (.value (.agg #[.int .u8 x0, .int .i64 x1])) := by kernel_rfl
@[simp] theorem build_94_0_1 (x0 : Int) (x1 : Int) : dry Go.Proofs.Tryz.prog (N.build 94 #[(0, (.int .i64 x0)), (1, (.int .i64 x1))]).sem = some (.value (.agg #[.int .i64 x0, .int .i64 x1])) := by kernel_rfl
@[simp] theorem build_96_0 (x0f0 : Int) (x0f1 : Int) : dry Go.Proofs.Tryz.prog (N.build 96 #[(0, (.agg #[.int .i64 x0f0, .int .i64 x0f1]))]).sem = some (.value (.agg #[.int .i64 x0f0, .int .i64 x0f1, .int .i64 0, .int .u64 0, .int .i64 0])) := by kernel_rfl
@[simp] theorem build_98_0_1_2_3_4_5 (x0 : Int) (x1 : Int) (x2 : Int) (x3 : Int) (x4 : Int) (x5 : Int) : dry Go.Proofs.Tryz.prog (N.build 98 #[(0, (.int .i64 x0)), (1, (.int .i64 x1)), (2, (.int .i64 x2)), (3, (.int .i64 x3)), (4, (.int .i64 x4)), (5, (.int .i64 x5))]).sem = some (.value (.agg #[.int .i64 x0, .int .i64 x1, .int .i64 x2, .int .i64 x3, .int .i64 x4, .int .i64 x5, .int .i64 0, .bool false, .bool false, .slice none 0 0, .int .i64 0, .int .i64 0, .int .i64 0, .int .i64 0, .int .i64 0, .int .i64 0, .int .u64 0, .int .i64 0])) := by kernel_rfl
@[simp] theorem build_110_0 (x0f0 : Int) (x0f1 : Int) (x0f2 : Int) (x0f3 : Int) (x0f4 : Int) : dry Go.Proofs.Tryz.prog (N.build 110 #[(0, (.agg #[.int .i64 x0f0, .int .i64 x0f1, .int .i64 x0f2, .int .i64 x0f3, .int .i64 x0f4]))]).sem = some (.value (.agg #[.int .i64 x0f0, .int .i64 x0f1, .int .i64 x0f2, .int .i64 x0f3, .int .i64 x0f4, .int .i64 0])) := by kernel_rfl
@[simp] theorem build_110_0_1 (x0f0 : Int) (x0f1 : Int) (x0f2 : Int) (x0f3 : Int) (x0f4 : Int) (x1 : Int) : dry Go.Proofs.Tryz.prog (N.build 110 #[(0, (.agg #[.int .i64 x0f0, .int .i64 x0f1, .int .i64 x0f2, .int .i64 x0f3, .int .i64 x0f4])), (1, (.int .i64 x1))]).sem = some (.value (.agg #[.int .i64 x0f0, .int .i64 x0f1, .int .i64 x0f2, .int .i64 x0f3, .int .i64 x0f4, .int .i64 x1])) := by kernel_rfl
@[simp] theorem build_138_0_1_2_3_4 (x0 : Int) (x1 : Int) (x2 : Int) (x3 : Int) (x4 : Int) : dry Go.Proofs.Tryz.prog (N.build 138 #[(0, (.int .i64 x0)), (1, (.int .i64 x1)), (2, (.int .i64 x2)), (3, (.int .i64 x3)), (4, (.int .i64 x4))]).sem = some (.value (.agg #[.int .i64 x0, .int .i64 x1, .int .i64 x2, .int .i64 x3, .int .i64 x4])) := by kernel_rfl
@[simp] theorem build_164_  : dry Go.Proofs.Tryz.prog (N.build 164 #[]).sem = some (.value (.agg #[.int .i64 0, .int .i64 0, .int .i64 0, .map none])) := by kernel_rfl
@[simp] theorem build_164_0_3 (x0 : Int) (x3 : Option Nat) : dry Go.Proofs.Tryz.prog (N.build 164 #[(0, (.int .i64 x0)), (3, (.map x3))]).sem = some (.value (.agg #[.int .i64 x0, .int .i64 0, .int .i64 0, .map x3])) := by kernel_rfl
@[simp] theorem build_168_0_1_2_3 (x0f0 : Int) (x0f1 : Int) (x0f2 : Int) (x1 : Option Addr) (x1n x1m : Nat) (x2 : Int) (x3 : Int) : dry Go.Proofs.Tryz.prog (N.build 168 #[(0, (.agg #[.int .i64 x0f0, .int .i64 x0f1, .int .i64 x0f2])), (1, (.slice x1 x1n x1m)), (2, (.int .i64 x2)), (3, (.int .u8 x3))]).sem = some (.value (.agg #[.int .i64 x0f0, .int .i64 x0f1, .int .i64 x0f2, .slice x1 x1n x1m, .int .i64 x2, .int .u8 x3, .int .i64 0])) := by kernel_rfl
@[simp] theorem build_186_0_1 (x0 : Int) (x1 : Int) : dry Go.Proofs.Tryz.prog (N.build 186 #[(0, (.int .i64 x0)), (1, (.int .i64 x1))]).sem = some (.value (.agg #[.int .i64 x0, .int .i64 x1])) := by kernel_rfl
@[simp] theorem build_193_0_2_6_11_7_8_9 (x0f0 : Int) (x0f1 : Int) (x0f2 : Int) (x2 : Int) (x6 : Option Addr) (x6n x6m : Nat) (x7 : Option Addr) (x8 : Option Addr) (x9 : Option Addr) (x11 : Option Addr) (x11n x11m : Nat) : dry Go.Proofs.Tryz.prog (N.build 193 #[(0, (.agg #[.int .i64 x0f0, .int .i64 x0f1, .int .i64 x0f2])), (2, (.int .i64 x2)), (6, (.slice x6 x6n x6m)), (11, (.slice x11 x11n x11m)), (7, (.pointer x7)), (8, (.pointer x8)), (9, (.pointer x9))]).sem = some (.value (.agg #[.int .i64 x0f0, .int .i64 x0f1, .int .i64 x0f2, .pointer none, .int .i64 x2, .int .i64 0, .int .i64 0, .int .i64 0, .slice none 0 0, .slice x6 x6n x6m, .pointer x7, .pointer x8, .pointer x9, .slice none 0 0, .slice x11 x11n x11m, .slice none 0 0])) := by kernel_rfl
@[simp] theorem build_202_0 (x0 : Option Addr) (x0n x0m : Nat) : dry Go.Proofs.Tryz.prog (N.build 202 #[(0, (.slice x0 x0n x0m))]).sem = some (.value (.agg #[.slice x0 x0n x0m, .int .i64 0])) := by kernel_rfl
@[simp] theorem build_202_0_1 (x0 : Option Addr) (x0n x0m : Nat) (x1 : Int) : dry Go.Proofs.Tryz.prog (N.build 202 #[(0, (.slice x0 x0n x0m)), (1, (.int .i64 x1))]).sem = some (.value (.agg #[.slice x0 x0n x0m, .int .i64 x1])) := by kernel_rfl
@[simp] theorem build_214_0_1_2_3_4 (x0 : Int) (x1 : Int) (x2 : Option Addr) (x2n x2m : Nat) (x3 : Option Nat) (x4 : Option Nat) : dry Go.Proofs.Tryz.prog (N.build 214 #[(0, (.int .i64 x0)), (1, (.int .i64 x1)), (2, (.slice x2 x2n x2m)), (3, (.map x3)), (4, (.map x4))]).sem = some (.value (.agg #[.int .i64 x0, .int .i64 x1, .slice x2 x2n x2m, .map x3, .map x4])) := by kernel_rfl
@[simp] theorem build_217_0_1 (x0 : Int) (x1 : Int) : dry Go.Proofs.Tryz.prog (N.build 217 #[(0, (.int .i64 x0)), (1, (.int .i64 x1))]).sem = some (.value (.agg #[.int .i64 x0, .int .i64 x1])) := by kernel_rfl
@[simp] theorem build_220_0_1_3 (x0 : Option Addr) (x1f0 : Int) (x1f1 : Int) (x3 : Option Addr) (x3n x3m : Nat) : dry Go.Proofs.Tryz.prog (N.build 220 #[(0, (.pointer x0)), (1, (.agg #[.int .u8 x1f0, .int .i64 x1f1])), (3, (.slice x3 x3n x3m))]).sem = some (.value (.agg #[.pointer x0, .int .u8 x1f0, .int .i64 x1f1, .int .i64 0, .slice x3 x3n x3m])) := by kernel_rfl
@[simp] theorem build_229_0_2_3 (x0 : Option Addr) (x2 : Option Nat) (x3 : Option Nat) : dry Go.Proofs.Tryz.prog (N.build 229 #[(0, (.pointer x0)), (2, (.map x2)), (3, (.map x3))]).sem = some (.value (.agg #[.pointer x0, .slice none 0 0, .map x2, .map x3, .slice none 0 0, .slice none 0 0])) := by kernel_rfl
@[simp] theorem build_238_0_1_2_3 (x0f0 : Int) (x1 : Option Addr) (x2 : Option Addr) (x3 : Int) : dry Go.Proofs.Tryz.prog (N.build 238 #[(0, (.agg #[.int .i64 x0f0])), (1, (.pointer x1)), (2, (.pointer x2)), (3, (.int .i64 x3))]).sem = some (.value (.agg #[.int .i64 x0f0, .pointer x1, .pointer x2, .int .i64 x3])) := by kernel_rfl
@[simp] theorem build_238_1_2 (x1 : Option Addr) (x2 : Option Addr) : dry Go.Proofs.Tryz.prog (N.build 238 #[(1, (.pointer x1)), (2, (.pointer x2))]).sem = some (.value (.agg #[.int .i64 0, .pointer x1, .pointer x2, .int .i64 0])) := by kernel_rfl
@[simp] theorem build_251_  : dry Go.Proofs.Tryz.prog (N.build 251 #[]).sem = some (.value (.agg #[.string ByteArray.empty, .int .u64 0, .int .u64 0])) := by kernel_rfl
@[simp] theorem build_251_0_1_2 (x0 : ByteArray) (x1 : Int) (x2 : Int) : dry Go.Proofs.Tryz.prog (N.build 251 #[(0, (.string x0)), (1, (.int .u64 x1)), (2, (.int .u64 x2))]).sem = some (.value (.agg #[.string x0, .int .u64 x1, .int .u64 x2])) := by kernel_rfl
@[simp] theorem build_259_0_1_2_3_4 (x0 : Option Addr) (x1 : Option Addr) (x1n x1m : Nat) (x2 : Option Addr) (x2n x2m : Nat) (x3 : Int) (x4 : Int) : dry Go.Proofs.Tryz.prog (N.build 259 #[(0, (.pointer x0)), (1, (.slice x1 x1n x1m)), (2, (.slice x2 x2n x2m)), (3, (.int .i64 x3)), (4, (.int .i64 x4))]).sem = some (.value (.agg #[.pointer x0, .slice x1 x1n x1m, .slice x2 x2n x2m, .int .i64 x3, .int .i64 x4])) := by kernel_rfl
@[simp] theorem build_259_0_3_4 (x0 : Option Addr) (x3 : Int) (x4 : Int) : dry Go.Proofs.Tryz.prog (N.build 259 #[(0, (.pointer x0)), (3, (.int .i64 x3)), (4, (.int .i64 x4))]).sem = some (.value (.agg #[.pointer x0, .slice none 0 0, .slice none 0 0, .int .i64 x3, .int .i64 x4])) := by kernel_rfl
@[simp] theorem build_271_0_1 (x0 : Int) (x1 : Int) : dry Go.Proofs.Tryz.prog (N.build 271 #[(0, (.int .u8 x0)), (1, (.int .i64 x1))]).sem = some (.value (.agg #[.int .u8 x0, .int .i64 x1])) := by kernel_rfl
@[simp] theorem build_289_0 (x0 : ByteArray) : dry Go.Proofs.Tryz.prog (N.build 289 #[(0, (.string x0))]).sem = some (.value (.agg #[.string x0])) := by kernel_rfl
@[simp] theorem build_303_0_1 (x0 : Bool) (x1 : Int) : dry Go.Proofs.Tryz.prog (N.build 303 #[(0, (.bool x0)), (1, (.int .i64 x1))]).sem = some (.value (.agg #[.bool x0, .int .i64 x1])) := by kernel_rfl
@[simp] theorem build_310_  : dry Go.Proofs.Tryz.prog (N.build 310 #[]).sem = some (.value (.agg #[])) := by kernel_rfl
@[simp] theorem build_315_0_2 (x0 : Option Addr) (x0n x0m : Nat) (x2 : Option Nat) : dry Go.Proofs.Tryz.prog (N.build 315 #[(0, (.slice x0 x0n x0m)), (2, (.map x2))]).sem = some (.value (.agg #[.slice x0 x0n x0m, .int .u64 0, .map x2])) := by kernel_rfl
@[simp] theorem build_320_0_1 (x0 : Option Nat) (x1 : Option Nat) : dry Go.Proofs.Tryz.prog (N.build 320 #[(0, (.map x0)), (1, (.map x1))]).sem = some (.value (.agg #[.map x0, .map x1])) := by kernel_rfl
@[simp] theorem build_339_0_1 (x0 : Int) (x1 : Option Addr) (x1n x1m : Nat) : dry Go.Proofs.Tryz.prog (N.build 339 #[(0, (.int .i64 x0)), (1, (.slice x1 x1n x1m))]).sem = some (.value (.agg #[.int .i64 x0, .slice x1 x1n x1m])) := by kernel_rfl
@[simp] theorem build_343_1 (x1 : Int) : dry Go.Proofs.Tryz.prog (N.build 343 #[(1, (.int .i64 x1))]).sem = some (.value (.agg #[.slice none 0 0, .int .i64 x1])) := by kernel_rfl
@[simp] theorem build_348_4 (x4 : Int) : dry Go.Proofs.Tryz.prog (N.build 348 #[(4, (.int .i64 x4))]).sem = some (.value (.agg #[.int .i64 0, .int .i64 0, .int .i64 0, .int .i64 0, .int .i64 0, .int .i64 0, .int .i64 0, .int .i64 0, .int .i64 0, .int .i64 0, .int .i64 0, .int .i64 0, .int .i64 0, .int .i64 0, .int .i64 0, .int .i64 0, .int .i64 0, .int .i64 0, .int .i64 0, .int .i64 0, .int .i64 0, .int .i64 0, .int .i64 0, .int .i64 0, .int .i64 0, .int .i64 0, .int .i64 0, .int .i64 0, .int .i64 0, .int .i64 0, .int .i64 0, .int .i64 0, .int .i64 0, .int .i64 0, .int .i64 0, .int .i64 0, .int .i64 0, .int .i64 0, .int .i64 0, .int .i64 0, .int .i64 0, .int .i64 0, .int .i64 0, .int .i64 0, .int .i64 0, .int .i64 0, .int .i64 0, .int .i64 0, .int .i64 0, .int .i64 0, .int .i64 0, .int .i64 0, .int .i64 0, .int .i64 0, .int .i64 0, .int .i64 0, .int .i64 0, .int .i64 0, .int .i64 0, .int .i64 0, .int .i64 0, .int .i64 0, .int .i64 0, .int .i64 0, .int .i64 0, .int .i64 0, .int .i64 0, .int .i64 0, .int .i64 0, .int .i64 0, .int .i64 0, .int .i64 0, .int .i64 0, .int .i64 0, .int .i64 0, .int .i64 0, .int .i64 0, .int .i64 0, .int .i64 0, .int .i64 0, .int .i64 0, .int .i64 0, .int .i64 0, .int .i64 0, .int .i64 0, .int .i64 0, .int .i64 0, .int .i64 0, .int .i64 0, .int .i64 0, .int .i64 0, .int .i64 0, .int .i64 0, .int .i64 0, .int .i64 0, .int .i64 0, .int .i64 0, .int .i64 0, .int .i64 0, .int .i64 0, .int .i64 0, .int .i64 0, .int .i64 0, .int .i64 0, .int .i64 0, .int .i64 0, .int .i64 0, .int .i64 0, .int .i64 0, .int .i64 0, .int .i64 0, .int .i64 0, .int .i64 0, .int .i64 0, .int .i64 0, .int .i64 0, .int .i64 0, .int .i64 0, .int .i64 0, .int .i64 0, .int .i64 0, .int .i64 0, .int .i64 0, .int .i64 0, .int .i64 0, .int .i64 0, .int .i64 0, .int .i64 0, .int .i64 0, .int .i64 0, .int .i64 0, .int .i64 0, .int .i64 0, .int .i64 0, .int .i64 0, .int .i64 0, .int .i64 0, .int .i64 0, .int .i64 0, .int .i64 0, .int .i64 0, .int .i64 0, .int .i64 0, .int .i64 0, .int .i64 0, .int .i64 0, .int .i64 0, .int .i64 0, .int .i64 0, .int .i64 0, .int .i64 0, .int .i64 0, .int .i64 0, .int .i64 0, .int .i64 0, .int .i64 0, .int .i64 0, .int .i64 0, .int .i64 0, .int .i64 0, .int .i64 0, .int .i64 0, .int .i64 0, .int .i64 0, .int .i64 0, .int .i64 0, .int .i64 0, .int .i64 0, .int .i64 0, .int .i64 0, .int .i64 0, .int .i64 0, .int .i64 0, .int .i64 0, .int .i64 0, .int .i64 0, .int .i64 0, .int .i64 0, .int .i64 0, .int .i64 0, .int .i64 0, .int .i64 0, .int .i64 0, .int .i64 0, .int .i64 0, .int .i64 0, .int .i64 0, .int .i64 0, .int .i64 0, .int .i64 0, .int .i64 0, .int .i64 0, .int .i64 0, .int .i64 0, .int .i64 0, .int .i64 0, .int .i64 0, .int .i64 0, .int .i64 0, .int .i64 0, .int .i64 0, .int .i64 0, .int .i64 0, .int .i64 0, .int .i64 0, .int .i64 0, .int .i64 0, .int .i64 0, .int .i64 0, .int .i64 0, .int .i64 0, .int .i64 0, .int .i64 0, .int .i64 0, .int .i64 0, .int .i64 0, .int .i64 0, .int .i64 0, .int .i64 0, .int .i64 0, .int .i64 0, .int .i64 0, .int .i64 0, .int .i64 0, .int .i64 0, .int .i64 0, .int .i64 0, .int .i64 0, .int .i64 0, .int .i64 0, .int .i64 0, .int .i64 0, .int .i64 0, .int .i64 0, .int .i64 0, .int .i64 0, .int .i64 0, .int .i64 0, .int .i64 0, .int .i64 0, .int .i64 0, .int .i64 0, .int .i64 0, .int .i64 0, .int .i64 0, .int .i64 0, .int .i64 0, .int .i64 0, .int .i64 0, .int .i64 0, .int .i64 0, .int .i64 0, .int .i64 0, .int .i64 0, .int .i64 0, .int .i64 0, .int .i64 0, .int .i64 0, .bool false, .int .i64 x4, .int .i64 0])) := by kernel_rfl
@[simp] theorem build_361_0_1 (x0 : Int) (x1 : Int) : dry Go.Proofs.Tryz.prog (N.build 361 #[(0, (.int .i64 x0)), (1, (.int .i64 x1))]).sem = some (.value (.agg #[.int .i64 x0, .int .i64 x1])) := by kernel_rfl
@[simp] theorem build_366_  : dry Go.Proofs.Tryz.prog (N.build 366 #[]).sem = some (.value (.agg #[.string ByteArray.empty, .int .i64 0])) := by kernel_rfl
@[simp] theorem build_366_0_1 (x0 : ByteArray) (x1 : Int) : dry Go.Proofs.Tryz.prog (N.build 366 #[(0, (.string x0)), (1, (.int .i64 x1))]).sem = some (.value (.agg #[.string x0, .int .i64 x1])) := by kernel_rfl
@[simp] theorem build_378_0_1_2 (x0 : Int) (x1 : Bool) (x2 : Bool) : dry Go.Proofs.Tryz.prog (N.build 378 #[(0, (.int .i64 x0)), (1, (.bool x1)), (2, (.bool x2))]).sem = some (.value (.agg #[.int .i64 x0, .bool x1, .bool x2])) := by kernel_rfl
@[simp] theorem build_381_0 (x0 : Option Addr) (x0n x0m : Nat) : dry Go.Proofs.Tryz.prog (N.build 381 #[(0, (.slice x0 x0n x0m))]).sem = some (.value (.agg #[.slice x0 x0n x0m])) := by kernel_rfl
@[simp] theorem build_413_  : dry Go.Proofs.Tryz.prog (N.build 413 #[]).sem = some (.value (.agg #[.int .i64 0, .int .u64 0, .int .i64 0])) := by kernel_rfl
@[simp] theorem build_413_0_1_2 (x0 : Int) (x1 : Int) (x2 : Int) : dry Go.Proofs.Tryz.prog (N.build 413 #[(0, (.int .i64 x0)), (1, (.int .u64 x1)), (2, (.int .i64 x2))]).sem = some (.value (.agg #[.int .i64 x0, .int .u64 x1, .int .i64 x2])) := by kernel_rfl
theorem app_33_33 : appT Go.Proofs.Tryz.prog 33 33 = some (3, 1, 8, #[.int .i64 0]) := by kernel_rfl
theorem app_56_56 : appT Go.Proofs.Tryz.prog 56 56 = some (40, 5, 32, #[.int .u8 0, .int .u8 0, .int .i64 0, .int .i64 0, .int .i64 0]) := by kernel_rfl
theorem app_60_60 : appT Go.Proofs.Tryz.prog 60 60 = some (43, 5, 40, #[.int .i64 0, .int .i64 0, .int .i64 0, .int .i64 0, .int .i64 0]) := by kernel_rfl
theorem app_107_107 : appT Go.Proofs.Tryz.prog 107 107 = some (110, 6, 48, #[.int .i64 0, .int .i64 0, .int .i64 0, .int .i64 0, .int .i64 0, .int .i64 0]) := by kernel_rfl
theorem app_114_114 : appT Go.Proofs.Tryz.prog 114 114 = some (48, 5, 32, #[.int .u8 0, .int .u8 0, .int .i64 0, .int .i64 0, .int .i64 0]) := by kernel_rfl
theorem app_128_128 : appT Go.Proofs.Tryz.prog 128 128 = some (138, 5, 40, #[.int .i64 0, .int .i64 0, .int .i64 0, .int .i64 0, .int .i64 0]) := by kernel_rfl
theorem app_157_157 : appT Go.Proofs.Tryz.prog 157 157 = some (271, 2, 16, #[.int .u8 0, .int .i64 0]) := by kernel_rfl
theorem app_172_172 : appT Go.Proofs.Tryz.prog 172 172 = some (20, 1, 16, #[.nilIface]) := by kernel_rfl
theorem app_187_187 : appT Go.Proofs.Tryz.prog 187 187 = some (264, 1, 8, #[.pointer none]) := by kernel_rfl
theorem app_189_189 : appT Go.Proofs.Tryz.prog 189 189 = some (98, 18, 152, #[.int .i64 0, .int .i64 0, .int .i64 0, .int .i64 0, .int .i64 0, .int .i64 0, .int .i64 0, .bool false, .bool false, .slice none 0 0, .int .i64 0, .int .i64 0, .int .i64 0, .int .i64 0, .int .i64 0, .int .i64 0, .int .u64 0, .int .i64 0]) := by kernel_rfl
theorem app_200_200 : appT Go.Proofs.Tryz.prog 200 200 = some (81, 1, 8, #[.int .u64 0]) := by kernel_rfl
theorem app_208_208 : appT Go.Proofs.Tryz.prog 208 208 = some (302, 1, 8, #[.int .i64 0]) := by kernel_rfl
theorem app_280_280 : appT Go.Proofs.Tryz.prog 280 280 = some (5, 1, 1, #[.int .u8 0]) := by kernel_rfl
theorem app_379_379 : appT Go.Proofs.Tryz.prog 379 379 = some (413, 3, 24, #[.int .i64 0, .int .u64 0, .int .i64 0]) := by kernel_rfl
theorem app_470_470 : appT Go.Proofs.Tryz.prog 470 470 = some (197, 1, 2, #[.int .u16 0]) := by kernel_rfl
theorem make_33 : makeT Go.Proofs.Tryz.prog 33 = some (3, 8, .int .i64 0) := by kernel_rfl
theorem make_115 : makeT Go.Proofs.Tryz.prog 115 = some (4, 1, .bool false) := by kernel_rfl
theorem make_200 : makeT Go.Proofs.Tryz.prog 200 = some (81, 8, .int .u64 0) := by kernel_rfl
theorem make_210 : makeT Go.Proofs.Tryz.prog 210 = some (82, 8, .int .u64 0) := by kernel_rfl
theorem make_312 : makeT Go.Proofs.Tryz.prog 312 = some (381, 24, .agg #[.slice none 0 0]) := by kernel_rfl
theorem bs_33_0  : buildT Go.Proofs.Tryz.prog 33 0 [] = some (3, #[]) := by kernel_rfl
theorem bs_33_1 (x0 : Int) : buildT Go.Proofs.Tryz.prog 33 1 [(0, (.int .i64 x0))] = some (3, #[.int .i64 x0]) := by kernel_rfl
theorem bs_33_3 (x0 : Int) (x1 : Int) (x2 : Int) : buildT Go.Proofs.Tryz.prog 33 3 [(0, (.int .i64 x0)), (1, (.int .i64 x1)), (2, (.int .i64 x2))] = some (3, #[.int .i64 x0, .int .i64 x1, .int .i64 x2]) := by kernel_rfl
theorem bs_47_1 (x0f0 : Int) (x0f1f0 : Int) (x0f1f1 : Int) (x0f1f2 : Int) (x0f2f0 : Int) (x0f2f1 : Int) (x0f2f2 : Int) (x0f2f3 : Int) (x0f2f4 : Int) (x0f3f0 : Int) (x0f3f1 : Int) (x0f3f2 : Int) (x0f3f3 : Int) (x0f3f4 : Int) (x0f4 : Int) (x0f5 : Int) (x0f6 : ByteArray) : buildT Go.Proofs.Tryz.prog 47 1 [(0, (.agg #[.int .u8 x0f0, .int .i64 x0f1f0, .int .i64 x0f1f1, .int .i64 x0f1f2, .int .u8 x0f2f0, .int .u8 x0f2f1, .int .i64 x0f2f2, .int .i64 x0f2f3, .int .i64 x0f2f4, .int .i64 x0f3f0, .int .i64 x0f3f1, .int .i64 x0f3f2, .int .i64 x0f3f3, .int .i64 x0f3f4, .int .i64 x0f4, .int .i32 x0f5, .string x0f6]))] = some (45, #[.int .u8 x0f0, .int .i64 x0f1f0, .int .i64 x0f1f1, .int .i64 x0f1f2, .int .u8 x0f2f0, .int .u8 x0f2f1, .int .i64 x0f2f2, .int .i64 x0f2f3, .int .i64 x0f2f4, .int .i64 x0f3f0, .int .i64 x0f3f1, .int .i64 x0f3f2, .int .i64 x0f3f3, .int .i64 x0f3f4, .int .i64 x0f4, .int .i32 x0f5, .string x0f6]) := by kernel_rfl
theorem bs_56_1 (x0f0 : Int) (x0f1 : Int) (x0f2 : Int) (x0f3 : Int) (x0f4 : Int) : buildT Go.Proofs.Tryz.prog 56 1 [(0, (.agg #[.int .u8 x0f0, .int .u8 x0f1, .int .i64 x0f2, .int .i64 x0f3, .int .i64 x0f4]))] = some (40, #[.int .u8 x0f0, .int .u8 x0f1, .int .i64 x0f2, .int .i64 x0f3, .int .i64 x0f4]) := by kernel_rfl
theorem bs_60_0  : buildT Go.Proofs.Tryz.prog 60 0 [] = some (43, #[]) := by kernel_rfl
theorem bs_60_1 (x0f0 : Int) (x0f1 : Int) (x0f2 : Int) (x0f3 : Int) (x0f4 : Int) : buildT Go.Proofs.Tryz.prog 60 1 [(0, (.agg #[.int .i64 x0f0, .int .i64 x0f1, .int .i64 x0f2, .int .i64 x0f3, .int .i64 x0f4]))] = some (43, #[.int .i64 x0f0, .int .i64 x0f1, .int .i64 x0f2, .int .i64 x0f3, .int .i64 x0f4]) := by kernel_rfl
theorem bs_60_3 (x0f0 : Int) (x0f1 : Int) (x0f2 : Int) (x0f3 : Int) (x0f4 : Int) (x1f0 : Int) (x1f1 : Int) (x1f2 : Int) (x1f3 : Int) (x1f4 : Int) (x2f0 : Int) (x2f1 : Int) (x2f2 : Int) (x2f3 : Int) (x2f4 : Int) : buildT Go.Proofs.Tryz.prog 60 3 [(0, (.agg #[.int .i64 x0f0, .int .i64 x0f1, .int .i64 x0f2, .int .i64 x0f3, .int .i64 x0f4])), (1, (.agg #[.int .i64 x1f0, .int .i64 x1f1, .int .i64 x1f2, .int .i64 x1f3, .int .i64 x1f4])), (2, (.agg #[.int .i64 x2f0, .int .i64 x2f1, .int .i64 x2f2, .int .i64 x2f3, .int .i64 x2f4]))] = some (43, #[.int .i64 x0f0, .int .i64 x0f1, .int .i64 x0f2, .int .i64 x0f3, .int .i64 x0f4, .int .i64 x1f0, .int .i64 x1f1, .int .i64 x1f2, .int .i64 x1f3, .int .i64 x1f4, .int .i64 x2f0, .int .i64 x2f1, .int .i64 x2f2, .int .i64 x2f3, .int .i64 x2f4]) := by kernel_rfl
theorem bs_107_0  : buildT Go.Proofs.Tryz.prog 107 0 [] = some (110, #[]) := by kernel_rfl
theorem bs_107_1 (x0f0f0 : Int) (x0f0f1 : Int) (x0f0f2 : Int) (x0f0f3 : Int) (x0f0f4 : Int) (x0f1 : Int) : buildT Go.Proofs.Tryz.prog 107 1 [(0, (.agg #[.int .i64 x0f0f0, .int .i64 x0f0f1, .int .i64 x0f0f2, .int .i64 x0f0f3, .int .i64 x0f0f4, .int .i64 x0f1]))] = some (110, #[.int .i64 x0f0f0, .int .i64 x0f0f1, .int .i64 x0f0f2, .int .i64 x0f0f3, .int .i64 x0f0f4, .int .i64 x0f1]) := by kernel_rfl
theorem bs_114_1 (x0f0 : Int) (x0f1 : Int) (x0f2 : Int) (x0f3 : Int) (x0f4 : Int) : buildT Go.Proofs.Tryz.prog 114 1 [(0, (.agg #[.int .u8 x0f0, .int .u8 x0f1, .int .i64 x0f2, .int .i64 x0f3, .int .i64 x0f4]))] = some (48, #[.int .u8 x0f0, .int .u8 x0f1, .int .i64 x0f2, .int .i64 x0f3, .int .i64 x0f4]) := by kernel_rfl
theorem bs_128_1 (x0f0 : Int) (x0f1 : Int) (x0f2 : Int) (x0f3 : Int) (x0f4 : Int) : buildT Go.Proofs.Tryz.prog 128 1 [(0, (.agg #[.int .i64 x0f0, .int .i64 x0f1, .int .i64 x0f2, .int .i64 x0f3, .int .i64 x0f4]))] = some (138, #[.int .i64 x0f0, .int .i64 x0f1, .int .i64 x0f2, .int .i64 x0f3, .int .i64 x0f4]) := by kernel_rfl
theorem bs_157_1 (x0f0 : Int) (x0f1 : Int) : buildT Go.Proofs.Tryz.prog 157 1 [(0, (.agg #[.int .u8 x0f0, .int .i64 x0f1]))] = some (271, #[.int .u8 x0f0, .int .i64 x0f1]) := by kernel_rfl
theorem bs_187_1 (x0 : Option Addr) : buildT Go.Proofs.Tryz.prog 187 1 [(0, (.pointer x0))] = some (264, #[.pointer x0]) := by kernel_rfl
theorem bs_189_1 (x0f0 : Int) (x0f1 : Int) (x0f2 : Int) (x0f3 : Int) (x0f4 : Int) (x0f5 : Int) (x0f6 : Int) (x0f7 : Bool) (x0f8 : Bool) (x0f9 : Option Addr) (x0f9n x0f9m : Nat) (x0f10 : Int) (x0f11 : Int) (x0f12 : Int) (x0f13f0f0 : Int) (x0f13f0f1 : Int) (x0f13f1 : Int) (x0f13f2 : Int) (x0f13f3 : Int) : buildT Go.Proofs.Tryz.prog 189 1 [(0, (.agg #[.int .i64 x0f0, .int .i64 x0f1, .int .i64 x0f2, .int .i64 x0f3, .int .i64 x0f4, .int .i64 x0f5, .int .i64 x0f6, .bool x0f7, .bool x0f8, .slice x0f9 x0f9n x0f9m, .int .i64 x0f10, .int .i64 x0f11, .int .i64 x0f12, .int .i64 x0f13f0f0, .int .i64 x0f13f0f1, .int .i64 x0f13f1, .int .u64 x0f13f2, .int .i64 x0f13f3]))] = some (98, #[.int .i64 x0f0, .int .i64 x0f1, .int .i64 x0f2, .int .i64 x0f3, .int .i64 x0f4, .int .i64 x0f5, .int .i64 x0f6, .bool x0f7, .bool x0f8, .slice x0f9 x0f9n x0f9m, .int .i64 x0f10, .int .i64 x0f11, .int .i64 x0f12, .int .i64 x0f13f0f0, .int .i64 x0f13f0f1, .int .i64 x0f13f1, .int .u64 x0f13f2, .int .i64 x0f13f3]) := by kernel_rfl
theorem bs_200_0  : buildT Go.Proofs.Tryz.prog 200 0 [] = some (81, #[]) := by kernel_rfl
theorem bs_208_1 (x0 : Int) : buildT Go.Proofs.Tryz.prog 208 1 [(0, (.int .i64 x0))] = some (302, #[.int .i64 x0]) := by kernel_rfl
theorem bs_210_0  : buildT Go.Proofs.Tryz.prog 210 0 [] = some (82, #[]) := by kernel_rfl
theorem bs_210_1 (x0 : Int) : buildT Go.Proofs.Tryz.prog 210 1 [(0, (.int .u64 x0))] = some (82, #[.int .u64 x0]) := by kernel_rfl
theorem bs_210_5 (x0 : Int) (x1 : Int) (x2 : Int) (x3 : Int) (x4 : Int) : buildT Go.Proofs.Tryz.prog 210 5 [(0, (.int .u64 x0)), (1, (.int .u64 x1)), (2, (.int .u64 x2)), (3, (.int .u64 x3)), (4, (.int .u64 x4))] = some (82, #[.int .u64 x0, .int .u64 x1, .int .u64 x2, .int .u64 x3, .int .u64 x4]) := by kernel_rfl
theorem bs_280_1 (x0 : Int) : buildT Go.Proofs.Tryz.prog 280 1 [(0, (.int .u8 x0))] = some (5, #[.int .u8 x0]) := by kernel_rfl
theorem bs_280_2 (x0 : Int) (x1 : Int) : buildT Go.Proofs.Tryz.prog 280 2 [(0, (.int .u8 x0)), (1, (.int .u8 x1))] = some (5, #[.int .u8 x0, .int .u8 x1]) := by kernel_rfl
theorem bs_280_3 (x0 : Int) (x1 : Int) (x2 : Int) : buildT Go.Proofs.Tryz.prog 280 3 [(0, (.int .u8 x0)), (1, (.int .u8 x1)), (2, (.int .u8 x2))] = some (5, #[.int .u8 x0, .int .u8 x1, .int .u8 x2]) := by kernel_rfl
theorem bs_280_4 (x0 : Int) (x1 : Int) (x2 : Int) (x3 : Int) : buildT Go.Proofs.Tryz.prog 280 4 [(0, (.int .u8 x0)), (1, (.int .u8 x1)), (2, (.int .u8 x2)), (3, (.int .u8 x3))] = some (5, #[.int .u8 x0, .int .u8 x1, .int .u8 x2, .int .u8 x3]) := by kernel_rfl
theorem bs_304_6 (x0f0 : Bool) (x0f1 : Int) (x1f0 : Bool) (x1f1 : Int) (x2f0 : Bool) (x2f1 : Int) (x3f0 : Bool) (x3f1 : Int) (x4f0 : Bool) (x4f1 : Int) (x5f0 : Bool) (x5f1 : Int) : buildT Go.Proofs.Tryz.prog 304 6 [(0, (.agg #[.bool x0f0, .int .i64 x0f1])), (1, (.agg #[.bool x1f0, .int .i64 x1f1])), (2, (.agg #[.bool x2f0, .int .i64 x2f1])), (3, (.agg #[.bool x3f0, .int .i64 x3f1])), (4, (.agg #[.bool x4f0, .int .i64 x4f1])), (5, (.agg #[.bool x5f0, .int .i64 x5f1]))] = some (303, #[.bool x0f0, .int .i64 x0f1, .bool x1f0, .int .i64 x1f1, .bool x2f0, .int .i64 x2f1, .bool x3f0, .int .i64 x3f1, .bool x4f0, .int .i64 x4f1, .bool x5f0, .int .i64 x5f1]) := by kernel_rfl
theorem bs_379_0  : buildT Go.Proofs.Tryz.prog 379 0 [] = some (413, #[]) := by kernel_rfl
theorem bs_379_1 (x0f0 : Int) (x0f1 : Int) (x0f2 : Int) : buildT Go.Proofs.Tryz.prog 379 1 [(0, (.agg #[.int .i64 x0f0, .int .u64 x0f1, .int .i64 x0f2]))] = some (413, #[.int .i64 x0f0, .int .u64 x0f1, .int .i64 x0f2]) := by kernel_rfl
theorem bs_470_1 (x0 : Int) : buildT Go.Proofs.Tryz.prog 470 1 [(0, (.int .u16 x0))] = some (197, #[.int .u16 x0]) := by kernel_rfl
@[simp] theorem cv_2_81 (k : IntKind) (n : Int) : dry Go.Proofs.Tryz.prog (N.conv 2 81 (.int k n)).sem = some (.value (.int .u64 (IntKind.u64.wrap n))) := by kernel_rfl
@[simp] theorem cv_2_197 (k : IntKind) (n : Int) : dry Go.Proofs.Tryz.prog (N.conv 2 197 (.int k n)).sem = some (.value (.int .u16 (IntKind.u16.wrap n))) := by kernel_rfl
@[simp] theorem cv_3_81 (k : IntKind) (n : Int) : dry Go.Proofs.Tryz.prog (N.conv 3 81 (.int k n)).sem = some (.value (.int .u64 (IntKind.u64.wrap n))) := by kernel_rfl
@[simp] theorem cv_3_82 (k : IntKind) (n : Int) : dry Go.Proofs.Tryz.prog (N.conv 3 82 (.int k n)).sem = some (.value (.int .u64 (IntKind.u64.wrap n))) := by kernel_rfl
@[simp] theorem cv_3_197 (k : IntKind) (n : Int) : dry Go.Proofs.Tryz.prog (N.conv 3 197 (.int k n)).sem = some (.value (.int .u16 (IntKind.u16.wrap n))) := by kernel_rfl
@[simp] theorem cv_3_398 (k : IntKind) (n : Int) : dry Go.Proofs.Tryz.prog (N.conv 3 398 (.int k n)).sem = some (.value (.int .u64 (IntKind.u64.wrap n))) := by kernel_rfl
@[simp] theorem cv_3_505 (k : IntKind) (n : Int) : dry Go.Proofs.Tryz.prog (N.conv 3 505 (.int k n)).sem = some (.value (.int .u64 (IntKind.u64.wrap n))) := by kernel_rfl
@[simp] theorem cv_5_3 (k : IntKind) (n : Int) : dry Go.Proofs.Tryz.prog (N.conv 5 3 (.int k n)).sem = some (.value (.int .i64 (IntKind.i64.wrap n))) := by kernel_rfl
@[simp] theorem cv_21_3 (k : IntKind) (n : Int) : dry Go.Proofs.Tryz.prog (N.conv 21 3 (.int k n)).sem = some (.value (.int .i64 (IntKind.i64.wrap n))) := by kernel_rfl
@[simp] theorem cv_21_5 (k : IntKind) (n : Int) : dry Go.Proofs.Tryz.prog (N.conv 21 5 (.int k n)).sem = some (.value (.int .u8 (IntKind.u8.wrap n))) := by kernel_rfl
@[simp] theorem cv_21_401 (k : IntKind) (n : Int) : dry Go.Proofs.Tryz.prog (N.conv 21 401 (.int k n)).sem = some (.value (.int .u32 (IntKind.u32.wrap n))) := by kernel_rfl
@[simp] theorem cv_81_3 (k : IntKind) (n : Int) : dry Go.Proofs.Tryz.prog (N.conv 81 3 (.int k n)).sem = some (.value (.int .i64 (IntKind.i64.wrap n))) := by kernel_rfl
@[simp] theorem cv_81_5 (k : IntKind) (n : Int) : dry Go.Proofs.Tryz.prog (N.conv 81 5 (.int k n)).sem = some (.value (.int .u8 (IntKind.u8.wrap n))) := by kernel_rfl
@[simp] theorem cv_81_401 (k : IntKind) (n : Int) : dry Go.Proofs.Tryz.prog (N.conv 81 401 (.int k n)).sem = some (.value (.int .u32 (IntKind.u32.wrap n))) := by kernel_rfl
@[simp] theorem cv_398_3 (k : IntKind) (n : Int) : dry Go.Proofs.Tryz.prog (N.conv 398 3 (.int k n)).sem = some (.value (.int .i64 (IntKind.i64.wrap n))) := by kernel_rfl
@[simp] theorem cv_398_401 (k : IntKind) (n : Int) : dry Go.Proofs.Tryz.prog (N.conv 398 401 (.int k n)).sem = some (.value (.int .u32 (IntKind.u32.wrap n))) := by kernel_rfl
@[simp] theorem cv_401_5 (k : IntKind) (n : Int) : dry Go.Proofs.Tryz.prog (N.conv 401 5 (.int k n)).sem = some (.value (.int .u8 (IntKind.u8.wrap n))) := by kernel_rfl
@[simp] theorem sl_33 : sliceT Go.Proofs.Tryz.prog 33 = some 1 := by kernel_rfl
@[simp] theorem sl_47 : sliceT Go.Proofs.Tryz.prog 47 = some 17 := by kernel_rfl
@[simp] theorem sl_56 : sliceT Go.Proofs.Tryz.prog 56 = some 5 := by kernel_rfl
@[simp] theorem sl_60 : sliceT Go.Proofs.Tryz.prog 60 = some 5 := by kernel_rfl
@[simp] theorem sl_107 : sliceT Go.Proofs.Tryz.prog 107 = some 6 := by kernel_rfl
@[simp] theorem sl_114 : sliceT Go.Proofs.Tryz.prog 114 = some 5 := by kernel_rfl
@[simp] theorem sl_115 : sliceT Go.Proofs.Tryz.prog 115 = some 1 := by kernel_rfl
@[simp] theorem sl_128 : sliceT Go.Proofs.Tryz.prog 128 = some 5 := by kernel_rfl
@[simp] theorem sl_131 : sliceT Go.Proofs.Tryz.prog 131 = some 1 := by kernel_rfl
@[simp] theorem sl_157 : sliceT Go.Proofs.Tryz.prog 157 = some 2 := by kernel_rfl
@[simp] theorem sl_172 : sliceT Go.Proofs.Tryz.prog 172 = some 1 := by kernel_rfl
@[simp] theorem sl_187 : sliceT Go.Proofs.Tryz.prog 187 = some 1 := by kernel_rfl
@[simp] theorem sl_189 : sliceT Go.Proofs.Tryz.prog 189 = some 18 := by kernel_rfl
@[simp] theorem sl_200 : sliceT Go.Proofs.Tryz.prog 200 = some 1 := by kernel_rfl
@[simp] theorem sl_208 : sliceT Go.Proofs.Tryz.prog 208 = some 1 := by kernel_rfl
@[simp] theorem sl_210 : sliceT Go.Proofs.Tryz.prog 210 = some 1 := by kernel_rfl
@[simp] theorem sl_280 : sliceT Go.Proofs.Tryz.prog 280 = some 1 := by kernel_rfl
@[simp] theorem sl_304 : sliceT Go.Proofs.Tryz.prog 304 = some 2 := by kernel_rfl
@[simp] theorem sl_312 : sliceT Go.Proofs.Tryz.prog 312 = some 1 := by kernel_rfl
@[simp] theorem sl_379 : sliceT Go.Proofs.Tryz.prog 379 = some 3 := by kernel_rfl
@[simp] theorem sl_470 : sliceT Go.Proofs.Tryz.prog 470 = some 1 := by kernel_rfl
@[simp] theorem arr_35 : arrT Go.Proofs.Tryz.prog 35 = some (5, 1) := by kernel_rfl
@[simp] theorem arr_68 : arrT Go.Proofs.Tryz.prog 68 = some (8, 1) := by kernel_rfl
@[simp] theorem arr_99 : arrT Go.Proofs.Tryz.prog 99 = some (8, 18) := by kernel_rfl
@[simp] theorem arr_100 : arrT Go.Proofs.Tryz.prog 100 = some (8, 1) := by kernel_rfl
@[simp] theorem arr_255 : arrT Go.Proofs.Tryz.prog 255 = some (7, 1) := by kernel_rfl
@[simp] theorem arr_334 : arrT Go.Proofs.Tryz.prog 334 = some (8, 3) := by kernel_rfl
@[simp] theorem arr_346 : arrT Go.Proofs.Tryz.prog 346 = some (256, 1) := by kernel_rfl
@[simp] theorem arr_402 : arrT Go.Proofs.Tryz.prog 402 = some (31, 2) := by kernel_rfl
@[simp] theorem arr_439 : arrT Go.Proofs.Tryz.prog 439 = some (24, 1) := by kernel_rfl
@[simp] theorem arr_467 : arrT Go.Proofs.Tryz.prog 467 = some (20, 1) := by kernel_rfl
@[simp] theorem arr_468 : arrT Go.Proofs.Tryz.prog 468 = some (65, 1) := by kernel_rfl
@[simp] theorem arr_489 : arrT Go.Proofs.Tryz.prog 489 = some (32, 1) := by kernel_rfl
@[simp] theorem arr_490 : arrT Go.Proofs.Tryz.prog 490 = some (64, 1) := by kernel_rfl
@[simp] theorem len_33 : lenT Go.Proofs.Tryz.prog 33 = true := by kernel_rfl
@[simp] theorem len_47 : lenT Go.Proofs.Tryz.prog 47 = true := by kernel_rfl
@[simp] theorem len_56 : lenT Go.Proofs.Tryz.prog 56 = true := by kernel_rfl
@[simp] theorem len_60 : lenT Go.Proofs.Tryz.prog 60 = true := by kernel_rfl
@[simp] theorem len_107 : lenT Go.Proofs.Tryz.prog 107 = true := by kernel_rfl
@[simp] theorem len_114 : lenT Go.Proofs.Tryz.prog 114 = true := by kernel_rfl
@[simp] theorem len_128 : lenT Go.Proofs.Tryz.prog 128 = true := by kernel_rfl
@[simp] theorem len_157 : lenT Go.Proofs.Tryz.prog 157 = true := by kernel_rfl
@[simp] theorem len_172 : lenT Go.Proofs.Tryz.prog 172 = true := by kernel_rfl
@[simp] theorem len_187 : lenT Go.Proofs.Tryz.prog 187 = true := by kernel_rfl
@[simp] theorem len_189 : lenT Go.Proofs.Tryz.prog 189 = true := by kernel_rfl
@[simp] theorem len_200 : lenT Go.Proofs.Tryz.prog 200 = true := by kernel_rfl
@[simp] theorem len_208 : lenT Go.Proofs.Tryz.prog 208 = true := by kernel_rfl
@[simp] theorem len_210 : lenT Go.Proofs.Tryz.prog 210 = true := by kernel_rfl
@[simp] theorem len_280 : lenT Go.Proofs.Tryz.prog 280 = true := by kernel_rfl
@[simp] theorem len_304 : lenT Go.Proofs.Tryz.prog 304 = true := by kernel_rfl
@[simp] theorem len_312 : lenT Go.Proofs.Tryz.prog 312 = true := by kernel_rfl
@[simp] theorem len_379 : lenT Go.Proofs.Tryz.prog 379 = true := by kernel_rfl
@[simp] theorem len_470 : lenT Go.Proofs.Tryz.prog 470 = true := by kernel_rfl
@[simp] theorem ptr_57 : ptrT Go.Proofs.Tryz.prog 57 = true := by kernel_rfl
@[simp] theorem ptr_63 : ptrT Go.Proofs.Tryz.prog 63 = true := by kernel_rfl
@[simp] theorem ptr_203 : ptrT Go.Proofs.Tryz.prog 203 = true := by kernel_rfl
@[simp] theorem ptr_279 : ptrT Go.Proofs.Tryz.prog 279 = true := by kernel_rfl
@[simp] theorem ptr_305 : ptrT Go.Proofs.Tryz.prog 305 = true := by kernel_rfl
@[simp] theorem ptr_382 : ptrT Go.Proofs.Tryz.prog 382 = true := by kernel_rfl
@[simp] theorem body_23 : hasBody Go.Proofs.Tryz.prog 23 = true := by kernel_rfl
@[simp] theorem body_24 : hasBody Go.Proofs.Tryz.prog 24 = true := by kernel_rfl
@[simp] theorem body_25 : hasBody Go.Proofs.Tryz.prog 25 = true := by kernel_rfl
@[simp] theorem body_26 : hasBody Go.Proofs.Tryz.prog 26 = true := by kernel_rfl
@[simp] theorem body_27 : hasBody Go.Proofs.Tryz.prog 27 = true := by kernel_rfl
@[simp] theorem body_28 : hasBody Go.Proofs.Tryz.prog 28 = true := by kernel_rfl
@[simp] theorem body_29 : hasBody Go.Proofs.Tryz.prog 29 = true := by kernel_rfl
@[simp] theorem body_30 : hasBody Go.Proofs.Tryz.prog 30 = true := by kernel_rfl
@[simp] theorem body_31 : hasBody Go.Proofs.Tryz.prog 31 = true := by kernel_rfl
@[simp] theorem body_32 : hasBody Go.Proofs.Tryz.prog 32 = true := by kernel_rfl
@[simp] theorem body_33 : hasBody Go.Proofs.Tryz.prog 33 = true := by kernel_rfl
@[simp] theorem body_34 : hasBody Go.Proofs.Tryz.prog 34 = true := by kernel_rfl
@[simp] theorem body_35 : hasBody Go.Proofs.Tryz.prog 35 = true := by kernel_rfl
@[simp] theorem body_36 : hasBody Go.Proofs.Tryz.prog 36 = true := by kernel_rfl
@[simp] theorem body_37 : hasBody Go.Proofs.Tryz.prog 37 = true := by kernel_rfl
@[simp] theorem body_38 : hasBody Go.Proofs.Tryz.prog 38 = true := by kernel_rfl
@[simp] theorem body_39 : hasBody Go.Proofs.Tryz.prog 39 = true := by kernel_rfl
@[simp] theorem body_40 : hasBody Go.Proofs.Tryz.prog 40 = true := by kernel_rfl
@[simp] theorem body_41 : hasBody Go.Proofs.Tryz.prog 41 = true := by kernel_rfl
@[simp] theorem body_42 : hasBody Go.Proofs.Tryz.prog 42 = true := by kernel_rfl
@[simp] theorem body_43 : hasBody Go.Proofs.Tryz.prog 43 = true := by kernel_rfl
@[simp] theorem body_44 : hasBody Go.Proofs.Tryz.prog 44 = true := by kernel_rfl
@[simp] theorem body_45 : hasBody Go.Proofs.Tryz.prog 45 = true := by kernel_rfl
@[simp] theorem body_46 : hasBody Go.Proofs.Tryz.prog 46 = true := by kernel_rfl
@[simp] theorem body_47 : hasBody Go.Proofs.Tryz.prog 47 = true := by kernel_rfl
@[simp] theorem body_48 : hasBody Go.Proofs.Tryz.prog 48 = true := by kernel_rfl
@[simp] theorem body_49 : hasBody Go.Proofs.Tryz.prog 49 = true := by kernel_rfl
@[simp] theorem body_50 : hasBody Go.Proofs.Tryz.prog 50 = true := by kernel_rfl
@[simp] theorem body_51 : hasBody Go.Proofs.Tryz.prog 51 = true := by kernel_rfl
@[simp] theorem body_52 : hasBody Go.Proofs.Tryz.prog 52 = true := by kernel_rfl
@[simp] theorem body_53 : hasBody Go.Proofs.Tryz.prog 53 = true := by kernel_rfl
@[simp] theorem body_54 : hasBody Go.Proofs.Tryz.prog 54 = true := by kernel_rfl
@[simp] theorem body_55 : hasBody Go.Proofs.Tryz.prog 55 = true := by kernel_rfl
@[simp] theorem body_56 : hasBody Go.Proofs.Tryz.prog 56 = true := by kernel_rfl
@[simp] theorem body_57 : hasBody Go.Proofs.Tryz.prog 57 = true := by kernel_rfl
@[simp] theorem body_58 : hasBody Go.Proofs.Tryz.prog 58 = true := by kernel_rfl
@[simp] theorem body_59 : hasBody Go.Proofs.Tryz.prog 59 = true := by kernel_rfl
@[simp] theorem body_60 : hasBody Go.Proofs.Tryz.prog 60 = true := by kernel_rfl
@[simp] theorem body_61 : hasBody Go.Proofs.Tryz.prog 61 = true := by kernel_rfl
@[simp] theorem body_62 : hasBody Go.Proofs.Tryz.prog 62 = true := by kernel_rfl
@[simp] theorem body_63 : hasBody Go.Proofs.Tryz.prog 63 = true := by kernel_rfl
@[simp] theorem body_64 : hasBody Go.Proofs.Tryz.prog 64 = true := by kernel_rfl
@[simp] theorem body_65 : hasBody Go.Proofs.Tryz.prog 65 = true := by kernel_rfl
@[simp] theorem body_66 : hasBody Go.Proofs.Tryz.prog 66 = true := by kernel_rfl
@[simp] theorem body_67 : hasBody Go.Proofs.Tryz.prog 67 = true := by kernel_rfl
@[simp] theorem body_68 : hasBody Go.Proofs.Tryz.prog 68 = true := by kernel_rfl
@[simp] theorem body_69 : hasBody Go.Proofs.Tryz.prog 69 = true := by kernel_rfl
@[simp] theorem body_70 : hasBody Go.Proofs.Tryz.prog 70 = true := by kernel_rfl
@[simp] theorem body_71 : hasBody Go.Proofs.Tryz.prog 71 = true := by kernel_rfl
@[simp] theorem body_72 : hasBody Go.Proofs.Tryz.prog 72 = true := by kernel_rfl
@[simp] theorem body_73 : hasBody Go.Proofs.Tryz.prog 73 = true := by kernel_rfl
@[simp] theorem body_74 : hasBody Go.Proofs.Tryz.prog 74 = true := by kernel_rfl
@[simp] theorem body_75 : hasBody Go.Proofs.Tryz.prog 75 = true := by kernel_rfl
@[simp] theorem body_76 : hasBody Go.Proofs.Tryz.prog 76 = true := by kernel_rfl
@[simp] theorem body_77 : hasBody Go.Proofs.Tryz.prog 77 = true := by kernel_rfl
@[simp] theorem body_78 : hasBody Go.Proofs.Tryz.prog 78 = true := by kernel_rfl
@[simp] theorem body_79 : hasBody Go.Proofs.Tryz.prog 79 = true := by kernel_rfl
@[simp] theorem body_80 : hasBody Go.Proofs.Tryz.prog 80 = true := by kernel_rfl
@[simp] theorem body_81 : hasBody Go.Proofs.Tryz.prog 81 = true := by kernel_rfl
@[simp] theorem body_82 : hasBody Go.Proofs.Tryz.prog 82 = true := by kernel_rfl
@[simp] theorem body_83 : hasBody Go.Proofs.Tryz.prog 83 = true := by kernel_rfl
@[simp] theorem body_84 : hasBody Go.Proofs.Tryz.prog 84 = true := by kernel_rfl
@[simp] theorem body_85 : hasBody Go.Proofs.Tryz.prog 85 = true := by kernel_rfl
@[simp] theorem body_86 : hasBody Go.Proofs.Tryz.prog 86 = true := by kernel_rfl
@[simp] theorem body_87 : hasBody Go.Proofs.Tryz.prog 87 = true := by kernel_rfl
@[simp] theorem body_88 : hasBody Go.Proofs.Tryz.prog 88 = true := by kernel_rfl
@[simp] theorem body_89 : hasBody Go.Proofs.Tryz.prog 89 = true := by kernel_rfl
@[simp] theorem body_90 : hasBody Go.Proofs.Tryz.prog 90 = true := by kernel_rfl
@[simp] theorem body_91 : hasBody Go.Proofs.Tryz.prog 91 = true := by kernel_rfl
@[simp] theorem body_92 : hasBody Go.Proofs.Tryz.prog 92 = true := by kernel_rfl
@[simp] theorem body_93 : hasBody Go.Proofs.Tryz.prog 93 = true := by kernel_rfl
@[simp] theorem body_94 : hasBody Go.Proofs.Tryz.prog 94 = true := by kernel_rfl
@[simp] theorem body_95 : hasBody Go.Proofs.Tryz.prog 95 = true := by kernel_rfl
@[simp] theorem body_96 : hasBody Go.Proofs.Tryz.prog 96 = true := by kernel_rfl
@[simp] theorem body_97 : hasBody Go.Proofs.Tryz.prog 97 = true := by kernel_rfl
@[simp] theorem body_98 : hasBody Go.Proofs.Tryz.prog 98 = true := by kernel_rfl
@[simp] theorem body_99 : hasBody Go.Proofs.Tryz.prog 99 = true := by kernel_rfl
@[simp] theorem body_100 : hasBody Go.Proofs.Tryz.prog 100 = true := by kernel_rfl
@[simp] theorem body_101 : hasBody Go.Proofs.Tryz.prog 101 = true := by kernel_rfl
@[simp] theorem body_102 : hasBody Go.Proofs.Tryz.prog 102 = true := by kernel_rfl
@[simp] theorem body_103 : hasBody Go.Proofs.Tryz.prog 103 = true := by kernel_rfl
@[simp] theorem body_104 : hasBody Go.Proofs.Tryz.prog 104 = true := by kernel_rfl
@[simp] theorem body_105 : hasBody Go.Proofs.Tryz.prog 105 = true := by kernel_rfl
@[simp] theorem body_106 : hasBody Go.Proofs.Tryz.prog 106 = true := by kernel_rfl
@[simp] theorem body_107 : hasBody Go.Proofs.Tryz.prog 107 = true := by kernel_rfl
@[simp] theorem body_108 : hasBody Go.Proofs.Tryz.prog 108 = true := by kernel_rfl
@[simp] theorem body_109 : hasBody Go.Proofs.Tryz.prog 109 = true := by kernel_rfl
@[simp] theorem body_110 : hasBody Go.Proofs.Tryz.prog 110 = true := by kernel_rfl
@[simp] theorem body_111 : hasBody Go.Proofs.Tryz.prog 111 = true := by kernel_rfl
@[simp] theorem body_112 : hasBody Go.Proofs.Tryz.prog 112 = true := by kernel_rfl
@[simp] theorem body_113 : hasBody Go.Proofs.Tryz.prog 113 = true := by kernel_rfl
@[simp] theorem body_114 : hasBody Go.Proofs.Tryz.prog 114 = true := by kernel_rfl
@[simp] theorem body_115 : hasBody Go.Proofs.Tryz.prog 115 = true := by kernel_rfl
@[simp] theorem body_116 : hasBody Go.Proofs.Tryz.prog 116 = true := by kernel_rfl
@[simp] theorem body_117 : hasBody Go.Proofs.Tryz.prog 117 = true := by kernel_rfl
@[simp] theorem body_118 : hasBody Go.Proofs.Tryz.prog 118 = true := by kernel_rfl
@[simp] theorem body_119 : hasBody Go.Proofs.Tryz.prog 119 = true := by kernel_rfl
@[simp] theorem body_120 : hasBody Go.Proofs.Tryz.prog 120 = true := by kernel_rfl
@[simp] theorem body_121 : hasBody Go.Proofs.Tryz.prog 121 = true := by kernel_rfl
@[simp] theorem body_122 : hasBody Go.Proofs.Tryz.prog 122 = true := by kernel_rfl
@[simp] theorem body_123 : hasBody Go.Proofs.Tryz.prog 123 = true := by kernel_rfl
@[simp] theorem body_124 : hasBody Go.Proofs.Tryz.prog 124 = true := by kernel_rfl
@[simp] theorem body_125 : hasBody Go.Proofs.Tryz.prog 125 = true := by kernel_rfl
@[simp] theorem body_126 : hasBody Go.Proofs.Tryz.prog 126 = true := by kernel_rfl
@[simp] theorem body_128 : hasBody Go.Proofs.Tryz.prog 128 = true := by kernel_rfl
@[simp] theorem body_129 : hasBody Go.Proofs.Tryz.prog 129 = true := by kernel_rfl
@[simp] theorem body_130 : hasBody Go.Proofs.Tryz.prog 130 = true := by kernel_rfl
@[simp] theorem body_131 : hasBody Go.Proofs.Tryz.prog 131 = true := by kernel_rfl
@[simp] theorem body_132 : hasBody Go.Proofs.Tryz.prog 132 = true := by kernel_rfl
@[simp] theorem body_133 : hasBody Go.Proofs.Tryz.prog 133 = true := by kernel_rfl
@[simp] theorem body_134 : hasBody Go.Proofs.Tryz.prog 134 = true := by kernel_rfl
@[simp] theorem body_135 : hasBody Go.Proofs.Tryz.prog 135 = true := by kernel_rfl
@[simp] theorem body_136 : hasBody Go.Proofs.Tryz.prog 136 = true := by kernel_rfl
@[simp] theorem body_137 : hasBody Go.Proofs.Tryz.prog 137 = true := by kernel_rfl
@[simp] theorem body_138 : hasBody Go.Proofs.Tryz.prog 138 = true := by kernel_rfl
@[simp] theorem body_145 : hasBody Go.Proofs.Tryz.prog 145 = true := by kernel_rfl
@[simp] theorem body_146 : hasBody Go.Proofs.Tryz.prog 146 = true := by kernel_rfl
@[simp] theorem body_147 : hasBody Go.Proofs.Tryz.prog 147 = true := by kernel_rfl
@[simp] theorem body_148 : hasBody Go.Proofs.Tryz.prog 148 = true := by kernel_rfl
@[simp] theorem body_149 : hasBody Go.Proofs.Tryz.prog 149 = true := by kernel_rfl
@[simp] theorem body_150 : hasBody Go.Proofs.Tryz.prog 150 = true := by kernel_rfl
@[simp] theorem body_151 : hasBody Go.Proofs.Tryz.prog 151 = true := by kernel_rfl
@[simp] theorem body_152 : hasBody Go.Proofs.Tryz.prog 152 = true := by kernel_rfl
@[simp] theorem body_153 : hasBody Go.Proofs.Tryz.prog 153 = true := by kernel_rfl
@[simp] theorem body_154 : hasBody Go.Proofs.Tryz.prog 154 = true := by kernel_rfl
@[simp] theorem body_155 : hasBody Go.Proofs.Tryz.prog 155 = true := by kernel_rfl
@[simp] theorem body_156 : hasBody Go.Proofs.Tryz.prog 156 = true := by kernel_rfl
@[simp] theorem body_157 : hasBody Go.Proofs.Tryz.prog 157 = true := by kernel_rfl
@[simp] theorem body_158 : hasBody Go.Proofs.Tryz.prog 158 = true := by kernel_rfl
@[simp] theorem body_159 : hasBody Go.Proofs.Tryz.prog 159 = true := by kernel_rfl
@[simp] theorem body_160 : hasBody Go.Proofs.Tryz.prog 160 = true := by kernel_rfl
@[simp] theorem body_161 : hasBody Go.Proofs.Tryz.prog 161 = true := by kernel_rfl
@[simp] theorem body_162 : hasBody Go.Proofs.Tryz.prog 162 = true := by kernel_rfl
@[simp] theorem body_163 : hasBody Go.Proofs.Tryz.prog 163 = true := by kernel_rfl
@[simp] theorem body_164 : hasBody Go.Proofs.Tryz.prog 164 = true := by kernel_rfl
@[simp] theorem body_165 : hasBody Go.Proofs.Tryz.prog 165 = true := by kernel_rfl
@[simp] theorem body_166 : hasBody Go.Proofs.Tryz.prog 166 = true := by kernel_rfl
@[simp] theorem body_167 : hasBody Go.Proofs.Tryz.prog 167 = true := by kernel_rfl
@[simp] theorem body_168 : hasBody Go.Proofs.Tryz.prog 168 = true := by kernel_rfl
@[simp] theorem body_169 : hasBody Go.Proofs.Tryz.prog 169 = true := by kernel_rfl
@[simp] theorem body_170 : hasBody Go.Proofs.Tryz.prog 170 = true := by kernel_rfl
@[simp] theorem body_171 : hasBody Go.Proofs.Tryz.prog 171 = true := by kernel_rfl
@[simp] theorem body_172 : hasBody Go.Proofs.Tryz.prog 172 = true := by kernel_rfl
@[simp] theorem body_173 : hasBody Go.Proofs.Tryz.prog 173 = true := by kernel_rfl
@[simp] theorem body_174 : hasBody Go.Proofs.Tryz.prog 174 = true := by kernel_rfl
@[simp] theorem body_175 : hasBody Go.Proofs.Tryz.prog 175 = true := by kernel_rfl
@[simp] theorem body_176 : hasBody Go.Proofs.Tryz.prog 176 = true := by kernel_rfl
@[simp] theorem body_177 : hasBody Go.Proofs.Tryz.prog 177 = true := by kernel_rfl
@[simp] theorem body_178 : hasBody Go.Proofs.Tryz.prog 178 = true := by kernel_rfl
@[simp] theorem body_179 : hasBody Go.Proofs.Tryz.prog 179 = true := by kernel_rfl
@[simp] theorem body_180 : hasBody Go.Proofs.Tryz.prog 180 = true := by kernel_rfl
@[simp] theorem body_181 : hasBody Go.Proofs.Tryz.prog 181 = true := by kernel_rfl
@[simp] theorem body_182 : hasBody Go.Proofs.Tryz.prog 182 = true := by kernel_rfl
@[simp] theorem body_183 : hasBody Go.Proofs.Tryz.prog 183 = true := by kernel_rfl
@[simp] theorem body_184 : hasBody Go.Proofs.Tryz.prog 184 = true := by kernel_rfl
@[simp] theorem body_185 : hasBody Go.Proofs.Tryz.prog 185 = true := by kernel_rfl
@[simp] theorem body_186 : hasBody Go.Proofs.Tryz.prog 186 = true := by kernel_rfl
@[simp] theorem body_187 : hasBody Go.Proofs.Tryz.prog 187 = true := by kernel_rfl
@[simp] theorem body_188 : hasBody Go.Proofs.Tryz.prog 188 = true := by kernel_rfl
@[simp] theorem body_189 : hasBody Go.Proofs.Tryz.prog 189 = true := by kernel_rfl
@[simp] theorem body_190 : hasBody Go.Proofs.Tryz.prog 190 = true := by kernel_rfl
@[simp] theorem body_191 : hasBody Go.Proofs.Tryz.prog 191 = true := by kernel_rfl
@[simp] theorem body_192 : hasBody Go.Proofs.Tryz.prog 192 = true := by kernel_rfl
@[simp] theorem body_193 : hasBody Go.Proofs.Tryz.prog 193 = true := by kernel_rfl
@[simp] theorem body_194 : hasBody Go.Proofs.Tryz.prog 194 = true := by kernel_rfl
@[simp] theorem body_195 : hasBody Go.Proofs.Tryz.prog 195 = true := by kernel_rfl
@[simp] theorem body_210 : hasBody Go.Proofs.Tryz.prog 210 = true := by kernel_rfl
@[simp] theorem body_211 : hasBody Go.Proofs.Tryz.prog 211 = true := by kernel_rfl
@[simp] theorem body_212 : hasBody Go.Proofs.Tryz.prog 212 = true := by kernel_rfl
@[simp] theorem body_213 : hasBody Go.Proofs.Tryz.prog 213 = true := by kernel_rfl
@[simp] theorem body_214 : hasBody Go.Proofs.Tryz.prog 214 = true := by kernel_rfl
@[simp] theorem body_215 : hasBody Go.Proofs.Tryz.prog 215 = true := by kernel_rfl
@[simp] theorem body_216 : hasBody Go.Proofs.Tryz.prog 216 = true := by kernel_rfl
@[simp] theorem body_217 : hasBody Go.Proofs.Tryz.prog 217 = true := by kernel_rfl
@[simp] theorem body_218 : hasBody Go.Proofs.Tryz.prog 218 = true := by kernel_rfl
@[simp] theorem body_219 : hasBody Go.Proofs.Tryz.prog 219 = true := by kernel_rfl
@[simp] theorem body_220 : hasBody Go.Proofs.Tryz.prog 220 = true := by kernel_rfl
@[simp] theorem body_221 : hasBody Go.Proofs.Tryz.prog 221 = true := by kernel_rfl
@[simp] theorem body_222 : hasBody Go.Proofs.Tryz.prog 222 = true := by kernel_rfl
@[simp] theorem body_223 : hasBody Go.Proofs.Tryz.prog 223 = true := by kernel_rfl
@[simp] theorem body_224 : hasBody Go.Proofs.Tryz.prog 224 = true := by kernel_rfl
@[simp] theorem body_225 : hasBody Go.Proofs.Tryz.prog 225 = true := by kernel_rfl
@[simp] theorem body_226 : hasBody Go.Proofs.Tryz.prog 226 = true := by kernel_rfl
@[simp] theorem body_227 : hasBody Go.Proofs.Tryz.prog 227 = true := by kernel_rfl
@[simp] theorem body_228 : hasBody Go.Proofs.Tryz.prog 228 = true := by kernel_rfl
@[simp] theorem body_229 : hasBody Go.Proofs.Tryz.prog 229 = true := by kernel_rfl
@[simp] theorem body_230 : hasBody Go.Proofs.Tryz.prog 230 = true := by kernel_rfl
@[simp] theorem body_231 : hasBody Go.Proofs.Tryz.prog 231 = true := by kernel_rfl
@[simp] theorem body_232 : hasBody Go.Proofs.Tryz.prog 232 = true := by kernel_rfl
@[simp] theorem body_233 : hasBody Go.Proofs.Tryz.prog 233 = true := by kernel_rfl
@[simp] theorem body_234 : hasBody Go.Proofs.Tryz.prog 234 = true := by kernel_rfl
@[simp] theorem body_235 : hasBody Go.Proofs.Tryz.prog 235 = true := by kernel_rfl
@[simp] theorem body_236 : hasBody Go.Proofs.Tryz.prog 236 = true := by kernel_rfl
@[simp] theorem body_237 : hasBody Go.Proofs.Tryz.prog 237 = true := by kernel_rfl
@[simp] theorem body_238 : hasBody Go.Proofs.Tryz.prog 238 = true := by kernel_rfl
@[simp] theorem body_239 : hasBody Go.Proofs.Tryz.prog 239 = true := by kernel_rfl
@[simp] theorem body_240 : hasBody Go.Proofs.Tryz.prog 240 = true := by kernel_rfl
@[simp] theorem body_241 : hasBody Go.Proofs.Tryz.prog 241 = true := by kernel_rfl
@[simp] theorem body_242 : hasBody Go.Proofs.Tryz.prog 242 = true := by kernel_rfl
@[simp] theorem body_243 : hasBody Go.Proofs.Tryz.prog 243 = true := by kernel_rfl
@[simp] theorem body_244 : hasBody Go.Proofs.Tryz.prog 244 = true := by kernel_rfl
@[simp] theorem body_245 : hasBody Go.Proofs.Tryz.prog 245 = true := by kernel_rfl
@[simp] theorem body_246 : hasBody Go.Proofs.Tryz.prog 246 = true := by kernel_rfl
@[simp] theorem body_247 : hasBody Go.Proofs.Tryz.prog 247 = true := by kernel_rfl
@[simp] theorem body_248 : hasBody Go.Proofs.Tryz.prog 248 = true := by kernel_rfl
@[simp] theorem body_249 : hasBody Go.Proofs.Tryz.prog 249 = true := by kernel_rfl
@[simp] theorem body_250 : hasBody Go.Proofs.Tryz.prog 250 = true := by kernel_rfl
@[simp] theorem body_251 : hasBody Go.Proofs.Tryz.prog 251 = true := by kernel_rfl
@[simp] theorem body_261 : hasBody Go.Proofs.Tryz.prog 261 = true := by kernel_rfl
@[simp] theorem body_262 : hasBody Go.Proofs.Tryz.prog 262 = true := by kernel_rfl
@[simp] theorem body_263 : hasBody Go.Proofs.Tryz.prog 263 = true := by kernel_rfl
@[simp] theorem body_264 : hasBody Go.Proofs.Tryz.prog 264 = true := by kernel_rfl
@[simp] theorem body_265 : hasBody Go.Proofs.Tryz.prog 265 = true := by kernel_rfl
@[simp] theorem body_267 : hasBody Go.Proofs.Tryz.prog 267 = true := by kernel_rfl
@[simp] theorem body_268 : hasBody Go.Proofs.Tryz.prog 268 = true := by kernel_rfl
@[simp] theorem body_269 : hasBody Go.Proofs.Tryz.prog 269 = true := by kernel_rfl
@[simp] theorem body_270 : hasBody Go.Proofs.Tryz.prog 270 = true := by kernel_rfl
@[simp] theorem body_271 : hasBody Go.Proofs.Tryz.prog 271 = true := by kernel_rfl
@[simp] theorem body_272 : hasBody Go.Proofs.Tryz.prog 272 = true := by kernel_rfl
@[simp] theorem body_273 : hasBody Go.Proofs.Tryz.prog 273 = true := by kernel_rfl
@[simp] theorem body_274 : hasBody Go.Proofs.Tryz.prog 274 = true := by kernel_rfl
@[simp] theorem body_275 : hasBody Go.Proofs.Tryz.prog 275 = true := by kernel_rfl
@[simp] theorem body_276 : hasBody Go.Proofs.Tryz.prog 276 = true := by kernel_rfl
@[simp] theorem body_277 : hasBody Go.Proofs.Tryz.prog 277 = true := by kernel_rfl
@[simp] theorem body_278 : hasBody Go.Proofs.Tryz.prog 278 = true := by kernel_rfl
@[simp] theorem body_279 : hasBody Go.Proofs.Tryz.prog 279 = true := by kernel_rfl
@[simp] theorem body_280 : hasBody Go.Proofs.Tryz.prog 280 = true := by kernel_rfl
@[simp] theorem body_281 : hasBody Go.Proofs.Tryz.prog 281 = true := by kernel_rfl
@[simp] theorem body_282 : hasBody Go.Proofs.Tryz.prog 282 = true := by kernel_rfl
@[simp] theorem body_283 : hasBody Go.Proofs.Tryz.prog 283 = true := by kernel_rfl
@[simp] theorem body_284 : hasBody Go.Proofs.Tryz.prog 284 = true := by kernel_rfl
@[simp] theorem body_285 : hasBody Go.Proofs.Tryz.prog 285 = true := by kernel_rfl
@[simp] theorem body_286 : hasBody Go.Proofs.Tryz.prog 286 = true := by kernel_rfl
@[simp] theorem body_287 : hasBody Go.Proofs.Tryz.prog 287 = true := by kernel_rfl
@[simp] theorem body_288 : hasBody Go.Proofs.Tryz.prog 288 = true := by kernel_rfl
@[simp] theorem body_289 : hasBody Go.Proofs.Tryz.prog 289 = true := by kernel_rfl
@[simp] theorem body_290 : hasBody Go.Proofs.Tryz.prog 290 = true := by kernel_rfl
@[simp] theorem body_291 : hasBody Go.Proofs.Tryz.prog 291 = true := by kernel_rfl
@[simp] theorem body_292 : hasBody Go.Proofs.Tryz.prog 292 = true := by kernel_rfl
@[simp] theorem body_293 : hasBody Go.Proofs.Tryz.prog 293 = true := by kernel_rfl
@[simp] theorem body_313 : hasBody Go.Proofs.Tryz.prog 313 = true := by kernel_rfl
@[simp] theorem body_314 : hasBody Go.Proofs.Tryz.prog 314 = true := by kernel_rfl
@[simp] theorem body_315 : hasBody Go.Proofs.Tryz.prog 315 = true := by kernel_rfl
@[simp] theorem body_316 : hasBody Go.Proofs.Tryz.prog 316 = true := by kernel_rfl
@[simp] theorem body_317 : hasBody Go.Proofs.Tryz.prog 317 = true := by kernel_rfl
@[simp] theorem body_318 : hasBody Go.Proofs.Tryz.prog 318 = true := by kernel_rfl
@[simp] theorem body_319 : hasBody Go.Proofs.Tryz.prog 319 = true := by kernel_rfl
@[simp] theorem body_320 : hasBody Go.Proofs.Tryz.prog 320 = true := by kernel_rfl
@[simp] theorem body_321 : hasBody Go.Proofs.Tryz.prog 321 = true := by kernel_rfl
@[simp] theorem body_322 : hasBody Go.Proofs.Tryz.prog 322 = true := by kernel_rfl
@[simp] theorem body_323 : hasBody Go.Proofs.Tryz.prog 323 = true := by kernel_rfl
@[simp] theorem body_324 : hasBody Go.Proofs.Tryz.prog 324 = true := by kernel_rfl
@[simp] theorem body_325 : hasBody Go.Proofs.Tryz.prog 325 = true := by kernel_rfl
@[simp] theorem body_326 : hasBody Go.Proofs.Tryz.prog 326 = true := by kernel_rfl
@[simp] theorem body_327 : hasBody Go.Proofs.Tryz.prog 327 = true := by kernel_rfl
@[simp] theorem body_328 : hasBody Go.Proofs.Tryz.prog 328 = true := by kernel_rfl
@[simp] theorem body_329 : hasBody Go.Proofs.Tryz.prog 329 = true := by kernel_rfl
@[simp] theorem body_330 : hasBody Go.Proofs.Tryz.prog 330 = true := by kernel_rfl
@[simp] theorem body_331 : hasBody Go.Proofs.Tryz.prog 331 = true := by kernel_rfl
@[simp] theorem body_332 : hasBody Go.Proofs.Tryz.prog 332 = true := by kernel_rfl
@[simp] theorem body_333 : hasBody Go.Proofs.Tryz.prog 333 = true := by kernel_rfl
@[simp] theorem body_334 : hasBody Go.Proofs.Tryz.prog 334 = true := by kernel_rfl
@[simp] theorem body_335 : hasBody Go.Proofs.Tryz.prog 335 = true := by kernel_rfl
@[simp] theorem body_336 : hasBody Go.Proofs.Tryz.prog 336 = true := by kernel_rfl
@[simp] theorem body_337 : hasBody Go.Proofs.Tryz.prog 337 = true := by kernel_rfl
@[simp] theorem body_350 : hasBody Go.Proofs.Tryz.prog 350 = true := by kernel_rfl
@[simp] theorem body_351 : hasBody Go.Proofs.Tryz.prog 351 = true := by kernel_rfl
@[simp] theorem body_352 : hasBody Go.Proofs.Tryz.prog 352 = true := by kernel_rfl
@[simp] theorem body_353 : hasBody Go.Proofs.Tryz.prog 353 = true := by kernel_rfl
@[simp] theorem body_354 : hasBody Go.Proofs.Tryz.prog 354 = true := by kernel_rfl
@[simp] theorem body_355 : hasBody Go.Proofs.Tryz.prog 355 = true := by kernel_rfl
@[simp] theorem body_356 : hasBody Go.Proofs.Tryz.prog 356 = true := by kernel_rfl
@[simp] theorem body_357 : hasBody Go.Proofs.Tryz.prog 357 = true := by kernel_rfl
@[simp] theorem body_358 : hasBody Go.Proofs.Tryz.prog 358 = true := by kernel_rfl
@[simp] theorem body_359 : hasBody Go.Proofs.Tryz.prog 359 = true := by kernel_rfl
@[simp] theorem body_360 : hasBody Go.Proofs.Tryz.prog 360 = true := by kernel_rfl
@[simp] theorem body_361 : hasBody Go.Proofs.Tryz.prog 361 = true := by kernel_rfl
@[simp] theorem body_362 : hasBody Go.Proofs.Tryz.prog 362 = true := by kernel_rfl
@[simp] theorem body_368 : hasBody Go.Proofs.Tryz.prog 368 = true := by kernel_rfl
@[simp] theorem body_369 : hasBody Go.Proofs.Tryz.prog 369 = true := by kernel_rfl
@[simp] theorem body_370 : hasBody Go.Proofs.Tryz.prog 370 = true := by kernel_rfl
@[simp] theorem body_371 : hasBody Go.Proofs.Tryz.prog 371 = true := by kernel_rfl
@[simp] theorem body_372 : hasBody Go.Proofs.Tryz.prog 372 = true := by kernel_rfl
@[simp] theorem body_373 : hasBody Go.Proofs.Tryz.prog 373 = true := by kernel_rfl
@[simp] theorem body_374 : hasBody Go.Proofs.Tryz.prog 374 = true := by kernel_rfl
@[simp] theorem body_375 : hasBody Go.Proofs.Tryz.prog 375 = true := by kernel_rfl
@[simp] theorem body_379 : hasBody Go.Proofs.Tryz.prog 379 = true := by kernel_rfl
@[simp] theorem body_380 : hasBody Go.Proofs.Tryz.prog 380 = true := by kernel_rfl
@[simp] theorem body_381 : hasBody Go.Proofs.Tryz.prog 381 = true := by kernel_rfl
@[simp] theorem body_382 : hasBody Go.Proofs.Tryz.prog 382 = true := by kernel_rfl
@[simp] theorem body_383 : hasBody Go.Proofs.Tryz.prog 383 = true := by kernel_rfl
@[simp] theorem body_384 : hasBody Go.Proofs.Tryz.prog 384 = true := by kernel_rfl
@[simp] theorem body_385 : hasBody Go.Proofs.Tryz.prog 385 = true := by kernel_rfl
@[simp] theorem body_386 : hasBody Go.Proofs.Tryz.prog 386 = true := by kernel_rfl
@[simp] theorem body_387 : hasBody Go.Proofs.Tryz.prog 387 = true := by kernel_rfl
@[simp] theorem body_388 : hasBody Go.Proofs.Tryz.prog 388 = true := by kernel_rfl
@[simp] theorem body_389 : hasBody Go.Proofs.Tryz.prog 389 = true := by kernel_rfl
@[simp] theorem body_390 : hasBody Go.Proofs.Tryz.prog 390 = true := by kernel_rfl
@[simp] theorem body_391 : hasBody Go.Proofs.Tryz.prog 391 = true := by kernel_rfl
@[simp] theorem body_392 : hasBody Go.Proofs.Tryz.prog 392 = true := by kernel_rfl
@[simp] theorem body_393 : hasBody Go.Proofs.Tryz.prog 393 = true := by kernel_rfl
@[simp] theorem body_394 : hasBody Go.Proofs.Tryz.prog 394 = true := by kernel_rfl
@[simp] theorem body_395 : hasBody Go.Proofs.Tryz.prog 395 = true := by kernel_rfl
@[simp] theorem body_396 : hasBody Go.Proofs.Tryz.prog 396 = true := by kernel_rfl
@[simp] theorem body_397 : hasBody Go.Proofs.Tryz.prog 397 = true := by kernel_rfl
@[simp] theorem body_398 : hasBody Go.Proofs.Tryz.prog 398 = true := by kernel_rfl
@[simp] theorem body_399 : hasBody Go.Proofs.Tryz.prog 399 = true := by kernel_rfl
@[simp] theorem body_400 : hasBody Go.Proofs.Tryz.prog 400 = true := by kernel_rfl
@[simp] theorem body_401 : hasBody Go.Proofs.Tryz.prog 401 = true := by kernel_rfl
@[simp] theorem body_402 : hasBody Go.Proofs.Tryz.prog 402 = true := by kernel_rfl
@[simp] theorem body_403 : hasBody Go.Proofs.Tryz.prog 403 = true := by kernel_rfl
@[simp] theorem body_404 : hasBody Go.Proofs.Tryz.prog 404 = true := by kernel_rfl
@[simp] theorem body_405 : hasBody Go.Proofs.Tryz.prog 405 = true := by kernel_rfl
@[simp] theorem body_406 : hasBody Go.Proofs.Tryz.prog 406 = true := by kernel_rfl
@[simp] theorem body_407 : hasBody Go.Proofs.Tryz.prog 407 = true := by kernel_rfl
end Go.Tr
