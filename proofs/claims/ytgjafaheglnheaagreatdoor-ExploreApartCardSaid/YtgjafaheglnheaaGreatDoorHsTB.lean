/- The trees of Go functions of this program, each with the equation that says so and the law that leads from a proof over the tree to the call. Written by a program of this session; no condition. -/
import Derived.Test.YtgjafaheglnheaaGreatDoorHsBase
set_option maxRecDepth 100000
namespace Go.Tr
/-- (*hostler/heap.Heap).Copy -/
def cfg249 : Cfg := ⟨tyInts, tyMaps, [], [], []⟩
def t249 (a0 : Value) : T := .pure (.nilChk a0) fun v4 => .pure (.fieldA 381 v4 0) fun v5 => .look (.load 379 v5) fun v6 => .op [] (.callv (.func (.func 293) #[] #[]) #[v6]) fun v7
  => .pure (.build 381 #[(0, v7)]) fun v8 => .op [] (.box 381 v8) fun v9 => .ret [v9]
theorem tree249 (a0 : Value) : treeF cfg249 Go.Proofs.Tryz.f249 [a0] = t249 a0 := by kernel_rfl
theorem calls249 (a0 : Value) {H : Heap} {Q : Value → Heap → Prop} (h : wpH Go.Proofs.Tryz.prog (fun vs H' => Q (retVal vs) H') (t249 a0) (fun _ _ _ => False) H) : CallsH Go.Proofs.Tryz.prog 249 #[a0] H Q :=
  callsH_of_tree cfg249 mixed Go.Proofs.Tryz.func249 (by rw [tree249]; exact h)

/-- (*hostler/heap.Heap).First -/
def cfg337 : Cfg := ⟨tyInts, tyMaps, [], [], []⟩
def t337 (a0 : Value) : T := .op [] (.alloc 413) fun v2 => .pure (.nilChk a0) fun v5 => .pure (.fieldA 381 v5 0) fun v6 => .look (.load 379 v6) fun v7 => .pure (.builtin .len
  #[379] 3 #[false] #[v7]) fun v8 => .pure (.bin .eql 3 (.tmp 8) (.const (.int .i64 0)) v8 (.int .i64 0)) fun v9 => .ite v9 (.pure (.build 413 #[]) fun v10 => .op [] (.store 413 v2
  v10) fun _ => .look (.resv 413 v2) fun r0 => .ret [r0, (.bool false)]) (.pure (.nilChk a0) fun v12 => .pure (.fieldA 381 v12 0) fun v13 => .look (.load 379 v13) fun v14 => .pure
  (.indexA 379 v14 (.int .i64 0)) fun v15 => .look (.load 413 v15) fun v16 => .op [] (.store 413 v2 v16) fun _ => .look (.resv 413 v2) fun r0 => .ret [r0, (.bool true)])
theorem tree337 (a0 : Value) : treeF cfg337 Go.Proofs.Tryz.f337 [a0] = t337 a0 := by kernel_rfl
theorem calls337 (a0 : Value) {H : Heap} {Q : Value → Heap → Prop} (h : wpH Go.Proofs.Tryz.prog (fun vs H' => Q (retVal vs) H') (t337 a0) (fun _ _ _ => False) H) : CallsH Go.Proofs.Tryz.prog 337 #[a0] H Q :=
  callsH_of_tree cfg337 mixed Go.Proofs.Tryz.func337 (by rw [tree337]; exact h)

/-- (*hostler/heap.Heap).Take -/
def cfg356 : Cfg := ⟨tyInts, tyMaps, [(7, [])], [], []⟩
def t356 (a0 : Value) : T := .op [] (.alloc 413) fun v2 => .op [] (.callv (.func (.func 337) #[] #[]) #[a0]) fun v9 => .pure (.extract v9 0) fun v10 => .pure (.extract v9 1) fun
  v11 => .op [] (.alloc 413) fun v4 => .op [] (.store 413 v4 v10) fun _ => .join (.ite v11 (.pure (.nilChk a0) fun v14 => .pure (.fieldA 381 v14 0) fun v15 => .look (.load 379 v15)
  fun v16 => .pure (.builtin .len #[379] 3 #[false] #[v16]) fun v17 => .pure (.bin .sub 3 (.tmp 17) (.const (.int .i64 1)) v17 (.int .i64 1)) fun v18 => .pure (.nilChk a0) fun v20
  => .pure (.fieldA 381 v20 0) fun v21 => .look (.load 379 v21) fun v22 => .pure (.nilChk a0) fun v24 => .pure (.fieldA 381 v24 0) fun v25 => .look (.load 379 v25) fun v26 => .pure
  (.indexA 379 v26 v18) fun v28 => .look (.load 413 v28) fun v29 => .pure (.indexA 379 v22 (.int .i64 0)) fun v30 => .op [] (.store 413 v30 v29) fun _ => .pure (.nilChk a0) fun v33
  => .pure (.fieldA 381 v33 0) fun v34 => .look (.load 379 v34) fun v35 => .pure (.slice 379 v35 none (some v18) none) fun v37 => .pure (.nilChk a0) fun v38 => .pure (.fieldA 381
  v38 0) fun v39 => .op [] (.store 379 v39 v37) fun _ => .op [] (.callv (.func (.func 370) #[] #[]) #[a0, (.int .i64 0)]) fun _ => .leaf none []) (.leaf none [])) fun e _ => onE e
  (.look (.load 413 v4) fun v42 => .op [] (.store 413 v2 v42) fun _ => .look (.resv 413 v2) fun r0 => .ret [r0, v11]) fun _ => .bad
theorem tree356 (a0 : Value) : treeF cfg356 Go.Proofs.Tryz.f356 [a0] = t356 a0 := by kernel_rfl
theorem calls356 (a0 : Value) {H : Heap} {Q : Value → Heap → Prop} (h : wpH Go.Proofs.Tryz.prog (fun vs H' => Q (retVal vs) H') (t356 a0) (fun _ _ _ => False) H) : CallsH Go.Proofs.Tryz.prog 356 #[a0] H Q :=
  callsH_of_tree cfg356 mixed Go.Proofs.Tryz.func356 (by rw [tree356]; exact h)

/-- hostler/heap.Ahead -/
def cfg362 : Cfg := ⟨tyInts, tyMaps, [], [], []⟩
def t362 (a0 a1 : Value) : T := .op [] (.box 413 a0) fun v2 => .op [] (.box 413 a1) fun v3 => .look (.load 413 v2) fun v5 => .look (.load 413 v3) fun v6 => .op [] (.callv (.func
  (.func 375) #[] #[]) #[v5, v6]) fun v7 => .pure (.bin .lss 3 (.tmp 7) (.const (.int .i64 0)) v7 (.int .i64 0)) fun v8 => .ret [v8]
theorem tree362 (a0 a1 : Value) : treeF cfg362 Go.Proofs.Tryz.f362 [a0, a1] = t362 a0 a1 := by kernel_rfl
theorem calls362 (a0 a1 : Value) {H : Heap} {Q : Value → Heap → Prop} (h : wpH Go.Proofs.Tryz.prog (fun vs H' => Q (retVal vs) H') (t362 a0 a1) (fun _ _ _ => False) H) : CallsH Go.Proofs.Tryz.prog 362 #[a0, a1] H Q :=
  callsH_of_tree cfg362 mixed Go.Proofs.Tryz.func362 (by rw [tree362]; exact h)

/-- (*hostler/heap.Heap).down -/
def cfg370 : Cfg := ⟨tyInts, tyMaps, [], [], [(0, [1])]⟩
def t370 (a0 a1 : Value) : T := .loop [a1] (fun s1 => .pure (.bin .mul 3 (.const (.int .i64 4)) (.tmp 5) (.int .i64 4) (sl s1 0)) fun v6 => .pure (.bin .add 3 (.tmp 6) (.const
  (.int .i64 1)) v6 (.int .i64 1)) fun v7 => .pure (.nilChk a0) fun v9 => .pure (.fieldA 381 v9 0) fun v10 => .look (.load 379 v10) fun v11 => .pure (.builtin .len #[379] 3
  #[false] #[v11]) fun v12 => .pure (.bin .lss 3 (.tmp 7) (.tmp 12) v7 v12) fun v13 => .ite v13 (.op [] (.callv (.func (.func 379) #[] #[]) #[a0, (sl s1 0)]) fun v16 => .pure
  (.nilChk a0) fun v18 => .pure (.fieldA 381 v18 0) fun v19 => .look (.load 379 v19) fun v20 => .pure (.indexA 379 v20 v16) fun v22 => .look (.load 413 v22) fun v23 => .pure
  (.nilChk a0) fun v25 => .pure (.fieldA 381 v25 0) fun v26 => .look (.load 379 v26) fun v27 => .pure (.indexA 379 v27 (sl s1 0)) fun v29 => .look (.load 413 v29) fun v30 => .op []
  (.callv (.func (.func 362) #[] #[]) #[v23, v30]) fun v31 => .pure (.un .not v31) fun v32 => .ite v32 (.leaf (some 0) [(sl s1 0)]) (.pure (.nilChk a0) fun v34 => .pure (.fieldA
  381 v34 0) fun v35 => .look (.load 379 v35) fun v36 => .pure (.nilChk a0) fun v39 => .pure (.fieldA 381 v39 0) fun v40 => .look (.load 379 v40) fun v41 => .pure (.nilChk a0) fun
  v44 => .pure (.fieldA 381 v44 0) fun v45 => .look (.load 379 v45) fun v46 => .pure (.indexA 379 v46 v16) fun v48 => .look (.load 413 v48) fun v49 => .pure (.nilChk a0) fun v51 =>
  .pure (.fieldA 381 v51 0) fun v52 => .look (.load 379 v52) fun v53 => .pure (.indexA 379 v53 (sl s1 0)) fun v55 => .look (.load 413 v55) fun v56 => .pure (.indexA 379 v36 (sl s1
  0)) fun v57 => .op [] (.store 413 v57 v49) fun _ => .pure (.indexA 379 v41 v16) fun v58 => .op [] (.store 413 v58 v56) fun _ => .leaf none [v16])) (.leaf (some 0) [(sl s1 0)]))
  (fun x _ => (if Nat.beq x 0 then .ret [] else .bad))
theorem tree370 (a0 a1 : Value) : treeF cfg370 Go.Proofs.Tryz.f370 [a0, a1] = t370 a0 a1 := by kernel_rfl
theorem calls370 (a0 a1 : Value) {H : Heap} {Q : Value → Heap → Prop} (h : wpH Go.Proofs.Tryz.prog (fun vs H' => Q (retVal vs) H') (t370 a0 a1) (fun _ _ _ => False) H) : CallsH Go.Proofs.Tryz.prog 370 #[a0, a1] H Q :=
  callsH_of_tree cfg370 mixed Go.Proofs.Tryz.func370 (by rw [tree370]; exact h)

/-- (*hostler/heap.Heap).Put -/
def cfg374 : Cfg := ⟨tyInts, tyMaps, [], [], []⟩
def t374 (a0 a1 : Value) : T := .op [] (.box 413 a1) fun v3 => .pure (.nilChk a0) fun v6 => .pure (.fieldA 381 v6 0) fun v7 => .look (.load 379 v7) fun v8 => .look (.load 413 v3)
  fun v9 => .op [(.load 379 v7, v8)] (.buildSlice 379 1 #[(0, v9)]) fun v10 => .op [] (.builtin .append #[379, 379] 379 #[false, false] #[v8, v10]) fun v11 => .pure (.nilChk a0)
  fun v12 => .pure (.fieldA 381 v12 0) fun v13 => .op [] (.store 379 v13 v11) fun _ => .pure (.nilChk a0) fun v16 => .pure (.fieldA 381 v16 0) fun v17 => .look (.load 379 v17) fun
  v18 => .pure (.builtin .len #[379] 3 #[false] #[v18]) fun v19 => .pure (.bin .sub 3 (.tmp 19) (.const (.int .i64 1)) v19 (.int .i64 1)) fun v20 => .op [] (.callv (.func (.func
  383) #[] #[]) #[a0, v20]) fun _ => .ret []
theorem tree374 (a0 a1 : Value) : treeF cfg374 Go.Proofs.Tryz.f374 [a0, a1] = t374 a0 a1 := by kernel_rfl
theorem calls374 (a0 a1 : Value) {H : Heap} {Q : Value → Heap → Prop} (h : wpH Go.Proofs.Tryz.prog (fun vs H' => Q (retVal vs) H') (t374 a0 a1) (fun _ _ _ => False) H) : CallsH Go.Proofs.Tryz.prog 374 #[a0, a1] H Q :=
  callsH_of_tree cfg374 mixed Go.Proofs.Tryz.func374 (by rw [tree374]; exact h)

/-- hostler/heap.order -/
def cfg375 : Cfg := ⟨tyInts, tyMaps, [], [], []⟩
def t375 (a0 a1 : Value) : T := .op [] (.box 413 a0) fun v2 => .op [] (.box 413 a1) fun v3 => .pure (.fieldA 413 v2 0) fun v5 => .look (.load 2 v5) fun v6 => .pure (.fieldA 413 v3
  0) fun v7 => .look (.load 2 v7) fun v8 => .pure (.fieldA 413 v2 1) fun v10 => .look (.load 81 v10) fun v11 => .pure (.fieldA 413 v3 1) fun v12 => .look (.load 81 v12) fun v13 =>
  .pure (.fieldA 413 v2 2) fun v15 => .look (.load 3 v15) fun v16 => .pure (.fieldA 413 v3 2) fun v17 => .look (.load 3 v17) fun v18 => .op [(.load 3 v17, v18), (.load 3 v15, v16),
  (.load 81 v12, v13), (.load 81 v10, v11)] (.callv (.func (.func 385) #[] #[]) #[v6, v8]) fun v9 => .op [(.load 3 v17, v18), (.load 3 v15, v16)] (.callv (.func (.func 386) #[]
  #[]) #[v11, v13]) fun v14 => .op [] (.callv (.func (.func 387) #[] #[]) #[v16, v18]) fun v19 => .op [] (.buildSlice 33 3 #[(0, v9), (1, v14), (2, v19)]) fun v20 => .op [] (.callv
  (.func (.func 384) #[] #[]) #[v20]) fun v21 => .ret [v21]
theorem tree375 (a0 a1 : Value) : treeF cfg375 Go.Proofs.Tryz.f375 [a0, a1] = t375 a0 a1 := by kernel_rfl
theorem calls375 (a0 a1 : Value) {H : Heap} {Q : Value → Heap → Prop} (h : wpH Go.Proofs.Tryz.prog (fun vs H' => Q (retVal vs) H') (t375 a0 a1) (fun _ _ _ => False) H) : CallsH Go.Proofs.Tryz.prog 375 #[a0, a1] H Q :=
  callsH_of_tree cfg375 mixed Go.Proofs.Tryz.func375 (by rw [tree375]; exact h)

/-- (*hostler/heap.Heap).least -/
def cfg379 : Cfg := ⟨tyInts, tyMaps, [], [], [(4, [6, 7])]⟩
def t379 (a0 a1 : Value) : T := .pure (.bin .mul 3 (.const (.int .i64 4)) (.tmp 8) (.int .i64 4) a1) fun v9 => .pure (.bin .add 3 (.tmp 9) (.const (.int .i64 1)) v9 (.int .i64 1))
  fun v10 => .loop [v10, v10] (fun s1 => .pure (.bin .add 3 (.tmp 14) (.const (.int .i64 4)) v10 (.int .i64 4)) fun v15 => .pure (.nilChk a0) fun v17 => .pure (.fieldA 381 v17 0)
  fun v18 => .look (.load 379 v18) fun v19 => .pure (.builtin .len #[379] 3 #[false] #[v19]) fun v20 => .pure (.builtin .min #[3, 3] 3 #[false, false] #[v15, v20]) fun v21 => .pure
  (.bin .lss 3 (.tmp 13) (.tmp 21) (sl s1 1) v21) fun v22 => .ite v22 (.pure (.nilChk a0) fun v26 => .pure (.fieldA 381 v26 0) fun v27 => .look (.load 379 v27) fun v28 => .pure
  (.indexA 379 v28 (sl s1 1)) fun v30 => .look (.load 413 v30) fun v31 => .pure (.nilChk a0) fun v33 => .pure (.fieldA 381 v33 0) fun v34 => .look (.load 379 v34) fun v35 => .pure
  (.indexA 379 v35 (sl s1 0)) fun v37 => .look (.load 413 v37) fun v38 => .op [] (.callv (.func (.func 362) #[] #[]) #[v31, v38]) fun v39 => .ite v39 (.pure (.bin .add 3 (.tmp 23)
  (.const (.int .i64 1)) (sl s1 1) (.int .i64 1)) fun v24 => .leaf none [(sl s1 1), v24]) (.pure (.bin .add 3 (.tmp 23) (.const (.int .i64 1)) (sl s1 1) (.int .i64 1)) fun v24 =>
  .leaf none [(sl s1 0), v24])) (.leaf (some 0) [(sl s1 0), (sl s1 1)])) (fun x s2 => (if Nat.beq x 0 then .ret [(sl s2 0)] else .bad))
theorem tree379 (a0 a1 : Value) : treeF cfg379 Go.Proofs.Tryz.f379 [a0, a1] = t379 a0 a1 := by kernel_rfl
theorem calls379 (a0 a1 : Value) {H : Heap} {Q : Value → Heap → Prop} (h : wpH Go.Proofs.Tryz.prog (fun vs H' => Q (retVal vs) H') (t379 a0 a1) (fun _ _ _ => False) H) : CallsH Go.Proofs.Tryz.prog 379 #[a0, a1] H Q :=
  callsH_of_tree cfg379 mixed Go.Proofs.Tryz.func379 (by rw [tree379]; exact h)

/-- (*hostler/heap.Heap).up -/
def cfg383 : Cfg := ⟨tyInts, tyMaps, [], [], [(0, [1])]⟩
def t383 (a0 a1 : Value) : T := .loop [a1] (fun s1 => .pure (.bin .gtr 3 (.tmp 5) (.const (.int .i64 0)) (sl s1 0) (.int .i64 0)) fun v6 => .ite v6 (.pure (.bin .sub 3 (.tmp 7)
  (.const (.int .i64 1)) (sl s1 0) (.int .i64 1)) fun v8 => .pure (.bin .quo 3 (.tmp 8) (.const (.int .i64 4)) v8 (.int .i64 4)) fun v9 => .pure (.nilChk a0) fun v11 => .pure
  (.fieldA 381 v11 0) fun v12 => .look (.load 379 v12) fun v13 => .pure (.indexA 379 v13 (sl s1 0)) fun v15 => .look (.load 413 v15) fun v16 => .pure (.nilChk a0) fun v18 => .pure
  (.fieldA 381 v18 0) fun v19 => .look (.load 379 v19) fun v20 => .pure (.indexA 379 v20 v9) fun v22 => .look (.load 413 v22) fun v23 => .op [] (.callv (.func (.func 362) #[] #[])
  #[v16, v23]) fun v24 => .pure (.un .not v24) fun v25 => .ite v25 (.ret []) (.pure (.nilChk a0) fun v27 => .pure (.fieldA 381 v27 0) fun v28 => .look (.load 379 v28) fun v29 =>
  .pure (.nilChk a0) fun v32 => .pure (.fieldA 381 v32 0) fun v33 => .look (.load 379 v33) fun v34 => .pure (.nilChk a0) fun v37 => .pure (.fieldA 381 v37 0) fun v38 => .look
  (.load 379 v38) fun v39 => .pure (.indexA 379 v39 v9) fun v41 => .look (.load 413 v41) fun v42 => .pure (.nilChk a0) fun v44 => .pure (.fieldA 381 v44 0) fun v45 => .look (.load
  379 v45) fun v46 => .pure (.indexA 379 v46 (sl s1 0)) fun v48 => .look (.load 413 v48) fun v49 => .pure (.indexA 379 v29 (sl s1 0)) fun v50 => .op [] (.store 413 v50 v42) fun _
  => .pure (.indexA 379 v34 v9) fun v51 => .op [] (.store 413 v51 v49) fun _ => .leaf none [v9])) (.leaf (some 0) [(sl s1 0)])) (fun x _ => (if Nat.beq x 0 then .ret [] else .bad))
theorem tree383 (a0 a1 : Value) : treeF cfg383 Go.Proofs.Tryz.f383 [a0, a1] = t383 a0 a1 := by kernel_rfl
theorem calls383 (a0 a1 : Value) {H : Heap} {Q : Value → Heap → Prop} (h : wpH Go.Proofs.Tryz.prog (fun vs H' => Q (retVal vs) H') (t383 a0 a1) (fun _ _ _ => False) H) : CallsH Go.Proofs.Tryz.prog 383 #[a0, a1] H Q :=
  callsH_of_tree cfg383 mixed Go.Proofs.Tryz.func383 (by rw [tree383]; exact h)

/-- (*hostler/timer.Timers).Has -/
def cfg137 : Cfg := ⟨tyInts, tyMaps, [], [], []⟩
def t137 (a0 a1 : Value) : T := .pure (.nilChk a0) fun v9 => .pure (.fieldA 315 v9 2) fun v10 => .look (.load 313 v10) fun v11 => .look (.lookup 313 v11 a1 true) fun v13 => .pure
  (.extract v13 0) fun v14 => .pure (.extract v13 1) fun v15 => .op [] (.alloc 310) fun v5 => .op [] (.store 310 v5 v14) fun _ => .ret [v15]
theorem tree137 (a0 a1 : Value) : treeF cfg137 Go.Proofs.Tryz.f137 [a0, a1] = t137 a0 a1 := by kernel_rfl
theorem calls137 (a0 a1 : Value) {H : Heap} {Q : Value → Heap → Prop} (h : wpH Go.Proofs.Tryz.prog (fun vs H' => Q (retVal vs) H') (t137 a0 a1) (fun _ _ _ => False) H) : CallsH Go.Proofs.Tryz.prog 137 #[a0, a1] H Q :=
  callsH_of_tree cfg137 mixed Go.Proofs.Tryz.func137 (by rw [tree137]; exact h)

/-- (*hostler/timer.Timers).Copy -/
def cfg194 : Cfg := ⟨tyInts, tyMaps, [], [], [(4, [24]), (9, [])]⟩
def t194 (a0 : Value) : T := .pure (.nilChk a0) fun v7 => .pure (.fieldA 315 v7 0) fun v8 => .look (.load 312 v8) fun v9 => .pure (.builtin .len #[312] 3 #[false] #[v9]) fun v10 =>
  .op [] (.callv (.func (.func 212) #[] #[]) #[v10]) fun v11 => .pure (.nilChk a0) fun v14 => .pure (.fieldA 315 v14 1) fun v15 => .look (.load 81 v15) fun v16 => .pure (.nilChk
  v11) fun v17 => .pure (.fieldA 315 v17 1) fun v18 => .op [] (.store 81 v18 v16) fun _ => .pure (.nilChk a0) fun v20 => .pure (.fieldA 315 v20 0) fun v21 => .look (.load 312 v21)
  fun v22 => .pure (.builtin .len #[312] 3 #[false] #[v22]) fun v23 => .loop [(.int .i64 0)] (fun s1 => .pure (.bin .lss 3 (.tmp 24) (.tmp 23) (sl s1 0) v23) fun v25 => .ite v25
  (.pure (.nilChk v11) fun v28 => .pure (.fieldA 315 v28 0) fun v29 => .look (.load 312 v29) fun v30 => .pure (.nilChk a0) fun v33 => .pure (.fieldA 315 v33 0) fun v34 => .look
  (.load 312 v34) fun v35 => .pure (.indexA 312 v35 (sl s1 0)) fun v37 => .op [(.load 312 v29, v30)] (.callv (.func (.func 249) #[] #[]) #[v37]) fun v38 => .pure (.nilChk v38) fun
  v39 => .look (.load 381 v39) fun v40 => .pure (.indexA 312 v30 (sl s1 0)) fun v41 => .op [] (.store 381 v41 v40) fun _ => .pure (.bin .add 3 (.tmp 24) (.const (.int .i64 1)) (sl
  s1 0) (.int .i64 1)) fun v42 => .leaf none [v42]) (.leaf (some 0) [(sl s1 0)])) (fun x _ => (if Nat.beq x 0 then .pure (.nilChk a0) fun v44 => .pure (.fieldA 315 v44 2) fun v45
  => .look (.load 313 v45) fun v46 => .op [] (.range 313 v46) fun v47 => .loop [] (fun _ => .op [] (.next v47 false 0) fun v48 => .pure (.extract v48 0) fun v49 => .ite v49 (.op []
  (.entry v47) fun v50 => .pure (.extract v50 0) fun v51 => .pure (.nilChk v11) fun v53 => .pure (.fieldA 315 v53 2) fun v54 => .look (.load 313 v54) fun v55 => .pure (.build 310
  #[]) fun v57 => .op [] (.mapUpd 313 v55 v51 v57) fun _ => .leaf none []) (.leaf (some 2) [])) (fun x _ => (if Nat.beq x 2 then .ret [v11] else .bad)) else .bad))
theorem tree194 (a0 : Value) : treeF cfg194 Go.Proofs.Tryz.f194 [a0] = t194 a0 := by kernel_rfl
theorem calls194 (a0 : Value) {H : Heap} {Q : Value → Heap → Prop} (h : wpH Go.Proofs.Tryz.prog (fun vs H' => Q (retVal vs) H') (t194 a0) (fun _ _ _ => False) H) : CallsH Go.Proofs.Tryz.prog 194 #[a0] H Q :=
  callsH_of_tree cfg194 mixed Go.Proofs.Tryz.func194 (by rw [tree194]; exact h)

/-- hostler/timer.New -/
def cfg212 : Cfg := ⟨tyInts, tyMaps, [], [], []⟩
def t212 (a0 : Value) : T := .pure (.builtin .max #[3, 3] 3 #[true, false] #[(.int .i64 1), a0]) fun v4 => .pure (.builtin .min #[3, 3] 3 #[false, true] #[v4, (.int .i64 64)]) fun
  v5 => .op [] (.mkSlice 312 v5 v5) fun v6 => .op [] (.mkMap 313 none) fun v7 => .pure (.build 315 #[(0, v6), (2, v7)]) fun v8 => .op [] (.box 315 v8) fun v9 => .ret [v9]
theorem tree212 (a0 : Value) : treeF cfg212 Go.Proofs.Tryz.f212 [a0] = t212 a0 := by kernel_rfl
theorem calls212 (a0 : Value) {H : Heap} {Q : Value → Heap → Prop} (h : wpH Go.Proofs.Tryz.prog (fun vs H' => Q (retVal vs) H') (t212 a0) (fun _ _ _ => False) H) : CallsH Go.Proofs.Tryz.prog 212 #[a0] H Q :=
  callsH_of_tree cfg212 mixed Go.Proofs.Tryz.func212 (by rw [tree212]; exact h)

/-- (*hostler/timer.Timers).Due -/
def cfg246 : Cfg := ⟨tyInts, tyMaps, [], [(2, [4])], []⟩
def t246 (a0 a1 : Value) : T := .op [] (.callv (.func (.func 292) #[] #[]) #[a0]) fun v9 => .pure (.extract v9 0) fun v10 => .pure (.extract v9 1) fun v11 => .join (.ite v11 (.pure
  (.bin .leq 2 (.tmp 14) (.tmp 15) v10 a1) fun v16 => .leaf none [v16]) (.leaf none [(.bool false)])) fun e s1 => onE e (.ret [(sl s1 0)]) fun _ => .bad
theorem tree246 (a0 a1 : Value) : treeF cfg246 Go.Proofs.Tryz.f246 [a0, a1] = t246 a0 a1 := by kernel_rfl
theorem calls246 (a0 a1 : Value) {H : Heap} {Q : Value → Heap → Prop} (h : wpH Go.Proofs.Tryz.prog (fun vs H' => Q (retVal vs) H') (t246 a0 a1) (fun _ _ _ => False) H) : CallsH Go.Proofs.Tryz.prog 246 #[a0, a1] H Q :=
  callsH_of_tree cfg246 mixed Go.Proofs.Tryz.func246 (by rw [tree246]; exact h)

/-- (*hostler/timer.Timers).Next -/
def cfg292 : Cfg := ⟨tyInts, tyMaps, [], [], []⟩
def t292 (a0 : Value) : T := .op [] (.callv (.func (.func 336) #[] #[]) #[a0]) fun v8 => .pure (.bin .eql 382 (.tmp 9) (.const (.pointer none)) v8 (.pointer none)) fun v10 => .ite
  v10 (.ret [(.int .i64 0), (.bool false)]) (.op [] (.callv (.func (.func 337) #[] #[]) #[v8]) fun v13 => .pure (.extract v13 0) fun v14 => .pure (.extract v13 1) fun _ => .op []
  (.alloc 413) fun v5 => .op [] (.store 413 v5 v14) fun _ => .pure (.fieldA 413 v5 0) fun v16 => .look (.load 2 v16) fun v17 => .ret [v17, (.bool true)])
theorem tree292 (a0 : Value) : treeF cfg292 Go.Proofs.Tryz.f292 [a0] = t292 a0 := by kernel_rfl
theorem calls292 (a0 : Value) {H : Heap} {Q : Value → Heap → Prop} (h : wpH Go.Proofs.Tryz.prog (fun vs H' => Q (retVal vs) H') (t292 a0) (fun _ _ _ => False) H) : CallsH Go.Proofs.Tryz.prog 292 #[a0] H Q :=
  callsH_of_tree cfg292 mixed Go.Proofs.Tryz.func292 (by rw [tree292]; exact h)

/-- (*hostler/timer.Timers).Take -/
def cfg329 : Cfg := ⟨tyInts, tyMaps, [], [], []⟩
def t329 (a0 a1 : Value) : T := .op [] (.alloc 413) fun v4 => .op [] (.callv (.func (.func 246) #[] #[]) #[a0, a1]) fun v10 => .pure (.un .not v10) fun v11 => .ite v11 (.pure
  (.build 413 #[]) fun v12 => .op [] (.store 413 v4 v12) fun _ => .look (.resv 413 v4) fun r0 => .ret [r0, (.bool false)]) (.op [] (.callv (.func (.func 336) #[] #[]) #[a0]) fun
  v15 => .op [] (.callv (.func (.func 356) #[] #[]) #[v15]) fun v16 => .pure (.extract v16 0) fun v17 => .pure (.extract v16 1) fun v18 => .op [] (.alloc 413) fun v6 => .op []
  (.store 413 v6 v17) fun _ => .pure (.nilChk a0) fun v20 => .pure (.fieldA 315 v20 2) fun v21 => .look (.load 313 v21) fun v22 => .pure (.fieldA 413 v6 2) fun v23 => .look (.load
  3 v23) fun v24 => .op [] (.builtin .delete #[313, 3] 0 #[false, false] #[v22, v24]) fun _ => .look (.load 413 v6) fun v25 => .op [] (.store 413 v4 v25) fun _ => .look (.resv 413
  v4) fun r0 => .ret [r0, v18])
theorem tree329 (a0 a1 : Value) : treeF cfg329 Go.Proofs.Tryz.f329 [a0, a1] = t329 a0 a1 := by kernel_rfl
theorem calls329 (a0 a1 : Value) {H : Heap} {Q : Value → Heap → Prop} (h : wpH Go.Proofs.Tryz.prog (fun vs H' => Q (retVal vs) H') (t329 a0 a1) (fun _ _ _ => False) H) : CallsH Go.Proofs.Tryz.prog 329 #[a0, a1] H Q :=
  callsH_of_tree cfg329 mixed Go.Proofs.Tryz.func329 (by rw [tree329]; exact h)

/-- (*hostler/timer.Timers).first -/
def cfg336 : Cfg := ⟨tyInts, tyMaps, [], [(7, [35])], [(4, [3, 13])]⟩
def t336 (a0 : Value) : T := .op [] (.alloc 413) fun v4 => .pure (.nilChk a0) fun v9 => .pure (.fieldA 315 v9 0) fun v10 => .look (.load 312 v10) fun v11 => .pure (.builtin .len
  #[312] 3 #[false] #[v11]) fun v12 => .loop [(.pointer none), (.int .i64 0)] (fun s1 => .pure (.bin .lss 3 (.tmp 13) (.tmp 12) (sl s1 1) v12) fun v14 => .ite v14 (.pure (.nilChk
  a0) fun v18 => .pure (.fieldA 315 v18 0) fun v19 => .look (.load 312 v19) fun v20 => .pure (.indexA 312 v20 (sl s1 1)) fun v22 => .op [] (.callv (.func (.func 337) #[] #[])
  #[v22]) fun v23 => .pure (.extract v23 0) fun v24 => .pure (.extract v23 1) fun v25 => .op [] (.alloc 413) fun v6 => .op [] (.store 413 v6 v24) fun _ => .join (.ite v25 (.pure
  (.bin .eql 382 (.tmp 28) (.const (.pointer none)) (sl s1 0) (.pointer none)) fun v29 => .ite v29 (.leaf none [(.bool true)]) (.look (.load 413 v6) fun v31 => .look (.load 413 v4)
  fun v32 => .op [] (.callv (.func (.func 362) #[] #[]) #[v31, v32]) fun v33 => .leaf none [v33])) (.leaf none [(.bool false)])) fun e s2 => onE e (.ite (sl s2 0) (.pure (.nilChk
  a0) fun v37 => .pure (.fieldA 315 v37 0) fun v38 => .look (.load 312 v38) fun v39 => .pure (.indexA 312 v39 (sl s1 1)) fun v41 => .look (.load 413 v6) fun v42 => .op [] (.store
  413 v4 v42) fun _ => .pure (.bin .add 3 (.tmp 13) (.const (.int .i64 1)) (sl s1 1) (.int .i64 1)) fun v43 => .leaf none [v41, v43]) (.pure (.bin .add 3 (.tmp 13) (.const (.int
  .i64 1)) (sl s1 1) (.int .i64 1)) fun v43 => .leaf none [(sl s1 0), v43])) fun _ => .bad) (.leaf (some 0) [(sl s1 0), (sl s1 1)])) (fun x s3 => (if Nat.beq x 0 then .ret [(sl s3
  0)] else .bad))
theorem tree336 (a0 : Value) : treeF cfg336 Go.Proofs.Tryz.f336 [a0] = t336 a0 := by kernel_rfl
theorem calls336 (a0 : Value) {H : Heap} {Q : Value → Heap → Prop} (h : wpH Go.Proofs.Tryz.prog (fun vs H' => Q (retVal vs) H') (t336 a0) (fun _ _ _ => False) H) : CallsH Go.Proofs.Tryz.prog 336 #[a0] H Q :=
  callsH_of_tree cfg336 mixed Go.Proofs.Tryz.func336 (by rw [tree336]; exact h)

/-- (*hostler/timer.Timers).Add -/
def cfg361 : Cfg := ⟨tyInts, tyMaps, [], [(1, [9])], []⟩
def t361 (a0 a1 a2 a3 : Value) : T := .join (.pure (.bin .lss 3 (.tmp 10) (.const (.int .i64 0)) a1 (.int .i64 0)) fun v11 => .ite v11 (.leaf none [(.bool true)]) (.pure (.nilChk
  a0) fun v15 => .pure (.fieldA 315 v15 0) fun v16 => .look (.load 312 v16) fun v17 => .pure (.builtin .len #[312] 3 #[false] #[v17]) fun v18 => .pure (.bin .geq 3 (.tmp 13) (.tmp
  18) a1 v18) fun v19 => .ite v19 (.leaf none [(.bool true)]) (.pure (.bin .lss 3 (.tmp 22) (.const (.int .i64 0)) a2 (.int .i64 0)) fun v23 => .ite v23 (.leaf none [(.bool true)])
  (.pure (.bin .geq 3 (.tmp 26) (.const (.int .i64 4096)) a2 (.int .i64 4096)) fun v27 => .leaf none [v27])))) fun e s1 => onE e (.ite (sl s1 0) (.ret [(.int .i64 1)]) (.op []
  (.callv (.func (.func 137) #[] #[]) #[a0, a2]) fun v32 => .ite v32 (.ret [(.int .i64 8)]) (.pure (.nilChk a0) fun v34 => .pure (.fieldA 315 v34 0) fun v35 => .look (.load 312
  v35) fun v36 => .pure (.indexA 312 v36 a1) fun v38 => .pure (.nilChk a0) fun v41 => .pure (.fieldA 315 v41 1) fun v42 => .look (.load 81 v42) fun v43 => .pure (.build 413 #[(0,
  a3), (1, v43), (2, a2)]) fun v45 => .op [] (.callv (.func (.func 374) #[] #[]) #[v38, v45]) fun _ => .pure (.nilChk a0) fun v48 => .pure (.fieldA 315 v48 1) fun v49 => .look
  (.load 81 v49) fun v50 => .pure (.bin .add 81 (.tmp 50) (.const (.int .u64 1)) v50 (.int .u64 1)) fun v51 => .pure (.nilChk a0) fun v52 => .pure (.fieldA 315 v52 1) fun v53 =>
  .op [] (.store 81 v53 v51) fun _ => .pure (.nilChk a0) fun v55 => .pure (.fieldA 315 v55 2) fun v56 => .look (.load 313 v56) fun v57 => .pure (.build 310 #[]) fun v59 => .op []
  (.mapUpd 313 v57 a2 v59) fun _ => .ret [(.int .i64 0)]))) fun _ => .bad
theorem tree361 (a0 a1 a2 a3 : Value) : treeF cfg361 Go.Proofs.Tryz.f361 [a0, a1, a2, a3] = t361 a0 a1 a2 a3 := by kernel_rfl
theorem calls361 (a0 a1 a2 a3 : Value) {H : Heap} {Q : Value → Heap → Prop} (h : wpH Go.Proofs.Tryz.prog (fun vs H' => Q (retVal vs) H') (t361 a0 a1 a2 a3) (fun _ _ _ => False) H) : CallsH Go.Proofs.Tryz.prog 361 #[a0, a1, a2, a3] H Q :=
  callsH_of_tree cfg361 mixed Go.Proofs.Tryz.func361 (by rw [tree361]; exact h)

/-- (*hostler/poll.Poll).Has -/
def cfg138 : Cfg := ⟨tyInts, tyMaps, [], [], []⟩
def t138 (a0 a1 : Value) : T := .pure (.nilChk a0) fun v9 => .pure (.fieldA 320 v9 1) fun v10 => .look (.load 318 v10) fun v11 => .look (.lookup 318 v11 a1 true) fun v13 => .pure
  (.extract v13 0) fun _ => .pure (.extract v13 1) fun v15 => .ret [v15]
theorem tree138 (a0 a1 : Value) : treeF cfg138 Go.Proofs.Tryz.f138 [a0, a1] = t138 a0 a1 := by kernel_rfl
theorem calls138 (a0 a1 : Value) {H : Heap} {Q : Value → Heap → Prop} (h : wpH Go.Proofs.Tryz.prog (fun vs H' => Q (retVal vs) H') (t138 a0 a1) (fun _ _ _ => False) H) : CallsH Go.Proofs.Tryz.prog 138 #[a0, a1] H Q :=
  callsH_of_tree cfg138 mixed Go.Proofs.Tryz.func138 (by rw [tree138]; exact h)

/-- (*hostler/poll.Poll).Ready -/
def cfg183 : Cfg := ⟨tyInts, tyMaps, [], [], []⟩
def t183 (a0 a1 : Value) : T := .op [] (.callv (.func (.func 248) #[] #[]) #[a0, a1]) fun v8 => .ite v8 (.ret [(.int .i64 2)]) (.pure (.nilChk a0) fun v10 => .pure (.fieldA 320 v10
  0) fun v11 => .look (.load 317 v11) fun v12 => .look (.lookup 317 v12 a1 false) fun v14 => .op [] (.alloc 378) fun v5 => .op [] (.store 378 v5 v14) fun _ => .pure (.fieldA 378 v5
  2) fun v15 => .op [] (.store 4 v15 (.bool true)) fun _ => .pure (.nilChk a0) fun v17 => .pure (.fieldA 320 v17 0) fun v18 => .look (.load 317 v18) fun v19 => .look (.load 378 v5)
  fun v21 => .op [] (.mapUpd 317 v19 a1 v21) fun _ => .ret [(.int .i64 0)])
theorem tree183 (a0 a1 : Value) : treeF cfg183 Go.Proofs.Tryz.f183 [a0, a1] = t183 a0 a1 := by kernel_rfl
theorem calls183 (a0 a1 : Value) {H : Heap} {Q : Value → Heap → Prop} (h : wpH Go.Proofs.Tryz.prog (fun vs H' => Q (retVal vs) H') (t183 a0 a1) (fun _ _ _ => False) H) : CallsH Go.Proofs.Tryz.prog 183 #[a0, a1] H Q :=
  callsH_of_tree cfg183 mixed Go.Proofs.Tryz.func183 (by rw [tree183]; exact h)

/-- (*hostler/poll.Poll).Copy -/
def cfg195 : Cfg := ⟨tyInts, tyMaps, [], [], []⟩
def t195 (a0 : Value) : T := .pure (.nilChk a0) fun v4 => .pure (.fieldA 320 v4 0) fun v5 => .look (.load 317 v5) fun v6 => .pure (.nilChk a0) fun v9 => .pure (.fieldA 320 v9 1)
  fun v10 => .look (.load 318 v10) fun v11 => .op [(.load 318 v10, v11)] (.callv (.func (.func 250) #[] #[]) #[v6]) fun v7 => .op [] (.callv (.func (.func 251) #[] #[]) #[v11]) fun
  v12 => .pure (.build 320 #[(0, v7), (1, v12)]) fun v13 => .op [] (.box 320 v13) fun v14 => .ret [v14]
theorem tree195 (a0 : Value) : treeF cfg195 Go.Proofs.Tryz.f195 [a0] = t195 a0 := by kernel_rfl
theorem calls195 (a0 : Value) {H : Heap} {Q : Value → Heap → Prop} (h : wpH Go.Proofs.Tryz.prog (fun vs H' => Q (retVal vs) H') (t195 a0) (fun _ _ _ => False) H) : CallsH Go.Proofs.Tryz.prog 195 #[a0] H Q :=
  callsH_of_tree cfg195 mixed Go.Proofs.Tryz.func195 (by rw [tree195]; exact h)

/-- hostler/poll.New -/
def cfg213 : Cfg := ⟨tyInts, tyMaps, [], [], []⟩
def t213 : T := .op [] (.mkMap 317 none) fun v1 => .op [] (.mkMap 318 none) fun v2 => .pure (.build 320 #[(0, v1), (1, v2)]) fun v3 => .op [] (.box 320 v3) fun v4 => .ret [v4]
theorem tree213 : treeF cfg213 Go.Proofs.Tryz.f213 [] = t213  := by kernel_rfl
theorem calls213 {H : Heap} {Q : Value → Heap → Prop} (h : wpH Go.Proofs.Tryz.prog (fun vs H' => Q (retVal vs) H') (t213 ) (fun _ _ _ => False) H) : CallsH Go.Proofs.Tryz.prog 213 #[] H Q :=
  callsH_of_tree cfg213 mixed Go.Proofs.Tryz.func213 (by rw [tree213]; exact h)

/-- (*hostler/poll.Poll).Due -/
def cfg247 : Cfg := ⟨tyInts, tyMaps, [], [(4, [19])], [(2, [])]⟩
def t247 (a0 : Value) : T := .pure (.nilChk a0) fun v6 => .pure (.fieldA 320 v6 0) fun v7 => .look (.load 317 v7) fun v8 => .op [] (.range 317 v8) fun v9 => .loop [] (fun _ => .op
  [] (.next v9 false 0) fun v10 => .pure (.extract v10 0) fun v11 => .ite v11 (.op [] (.entry v9) fun v12 => .pure (.extract v12 1) fun v13 => .op [] (.alloc 378) fun v4 => .op []
  (.store 378 v4 v13) fun _ => .join (.pure (.fieldA 378 v4 1) fun v14 => .look (.load 4 v14) fun v15 => .ite v15 (.pure (.fieldA 378 v4 2) fun v17 => .look (.load 4 v17) fun v18
  => .leaf none [v18]) (.leaf none [(.bool false)])) fun e s2 => onE e (.ite (sl s2 0) (.ret [(.bool true)]) (.leaf none [])) fun _ => .bad) (.leaf (some 0) [])) (fun x _ => (if
  Nat.beq x 0 then .ret [(.bool false)] else .bad))
theorem tree247 (a0 : Value) : treeF cfg247 Go.Proofs.Tryz.f247 [a0] = t247 a0 := by kernel_rfl
theorem calls247 (a0 : Value) {H : Heap} {Q : Value → Heap → Prop} (h : wpH Go.Proofs.Tryz.prog (fun vs H' => Q (retVal vs) H') (t247 a0) (fun _ _ _ => False) H) : CallsH Go.Proofs.Tryz.prog 247 #[a0] H Q :=
  callsH_of_tree cfg247 mixed Go.Proofs.Tryz.func247 (by rw [tree247]; exact h)

/-- (*hostler/poll.Poll).full -/
def cfg248 : Cfg := ⟨tyInts, tyMaps, [], [(2, [4])], []⟩
def t248 (a0 a1 : Value) : T := .pure (.nilChk a0) fun v9 => .pure (.fieldA 320 v9 0) fun v10 => .look (.load 317 v10) fun v11 => .look (.lookup 317 v11 a1 true) fun v13 => .pure
  (.extract v13 0) fun v14 => .pure (.extract v13 1) fun v15 => .op [] (.alloc 378) fun v5 => .op [] (.store 378 v5 v14) fun _ => .join (.pure (.un .not v15) fun v17 => .ite v17
  (.pure (.nilChk a0) fun v20 => .pure (.fieldA 320 v20 0) fun v21 => .look (.load 317 v21) fun v22 => .look (.builtin .len #[317] 3 #[false] #[v22]) fun v23 => .pure (.bin .geq 3
  (.tmp 23) (.const (.int .i64 1024)) v23 (.int .i64 1024)) fun v24 => .leaf none [v24]) (.leaf none [(.bool false)])) fun e s1 => onE e (.ret [(sl s1 0)]) fun _ => .bad
theorem tree248 (a0 a1 : Value) : treeF cfg248 Go.Proofs.Tryz.f248 [a0, a1] = t248 a0 a1 := by kernel_rfl
theorem calls248 (a0 a1 : Value) {H : Heap} {Q : Value → Heap → Prop} (h : wpH Go.Proofs.Tryz.prog (fun vs H' => Q (retVal vs) H') (t248 a0 a1) (fun _ _ _ => False) H) : CallsH Go.Proofs.Tryz.prog 248 #[a0, a1] H Q :=
  callsH_of_tree cfg248 mixed Go.Proofs.Tryz.func248 (by rw [tree248]; exact h)

/-- (*hostler/poll.Poll).Take -/
def cfg330 : Cfg := ⟨tyInts, tyMaps, [], [(5, [30])], [(2, [15])]⟩
def t330 (a0 : Value) : T := .pure (.nilChk a0) fun v9 => .pure (.fieldA 320 v9 0) fun v10 => .look (.load 317 v10) fun v11 => .op [] (.callv (.func (.func 358) #[] #[]) #[v11])
  fun v12 => .op [] (.callv (.func (.func 357) #[] #[]) #[v12]) fun v13 => .pure (.builtin .len #[470] 3 #[false] #[v13]) fun v14 => .loop [(.int .i64 0)] (fun s1 => .pure (.bin
  .lss 3 (.tmp 15) (.tmp 14) (sl s1 0) v14) fun v16 => .ite v16 (.pure (.indexA 470 v13 (sl s1 0)) fun v17 => .look (.load 197 v17) fun v18 => .pure (.nilChk a0) fun v20 => .pure
  (.fieldA 320 v20 0) fun v21 => .look (.load 317 v21) fun v22 => .look (.lookup 317 v22 v18 false) fun v24 => .op [] (.alloc 378) fun v7 => .op [] (.store 378 v7 v24) fun _ =>
  .join (.pure (.fieldA 378 v7 1) fun v25 => .look (.load 4 v25) fun v26 => .ite v26 (.pure (.fieldA 378 v7 2) fun v28 => .look (.load 4 v28) fun v29 => .leaf none [v29]) (.leaf
  none [(.bool false)])) fun e s2 => onE e (.ite (sl s2 0) (.pure (.nilChk a0) fun v32 => .pure (.fieldA 320 v32 0) fun v33 => .look (.load 317 v33) fun v34 => .op [] (.builtin
  .delete #[317, 197] 0 #[false, false] #[v34, v18]) fun _ => .pure (.nilChk a0) fun v37 => .pure (.fieldA 320 v37 1) fun v38 => .look (.load 318 v38) fun v39 => .pure (.fieldA 378
  v7 0) fun v40 => .look (.load 3 v40) fun v41 => .op [] (.builtin .delete #[318, 3] 0 #[false, false] #[v39, v41]) fun _ => .pure (.fieldA 378 v7 0) fun v43 => .look (.load 3 v43)
  fun v44 => .ret [v18, v44, (.bool true)]) (.pure (.bin .add 3 (.tmp 15) (.const (.int .i64 1)) (sl s1 0) (.int .i64 1)) fun v45 => .leaf none [v45])) fun _ => .bad) (.leaf (some
  0) [(sl s1 0)])) (fun x _ => (if Nat.beq x 0 then .ret [(.int .u16 0), (.int .i64 0), (.bool false)] else .bad))
theorem tree330 (a0 : Value) : treeF cfg330 Go.Proofs.Tryz.f330 [a0] = t330 a0 := by kernel_rfl
theorem calls330 (a0 : Value) {H : Heap} {Q : Value → Heap → Prop} (h : wpH Go.Proofs.Tryz.prog (fun vs H' => Q (retVal vs) H') (t330 a0) (fun _ _ _ => False) H) : CallsH Go.Proofs.Tryz.prog 330 #[a0] H Q :=
  callsH_of_tree cfg330 mixed Go.Proofs.Tryz.func330 (by rw [tree330]; exact h)

/-- (*hostler/poll.Poll).Wait -/
def cfg360 : Cfg := ⟨tyInts, tyMaps, [], [(2, [14]), (4, [21])], []⟩
def t360 (a0 a1 a2 : Value) : T := .pure (.nilChk a0) fun v9 => .pure (.fieldA 320 v9 0) fun v10 => .look (.load 317 v10) fun v11 => .look (.lookup 317 v11 a1 false) fun v13 => .op
  [] (.alloc 378) fun v7 => .op [] (.store 378 v7 v13) fun _ => .join (.pure (.bin .lss 3 (.tmp 15) (.const (.int .i64 0)) a2 (.int .i64 0)) fun v16 => .ite v16 (.leaf none [(.bool
  true)]) (.pure (.bin .geq 3 (.tmp 18) (.const (.int .i64 4096)) a2 (.int .i64 4096)) fun v19 => .leaf none [v19])) fun e s1 => onE e (.ite (sl s1 0) (.ret [(.int .i64 1)]) (.join
  (.pure (.fieldA 378 v7 1) fun v22 => .look (.load 4 v22) fun v23 => .ite v23 (.leaf none [(.bool true)]) (.op [] (.callv (.func (.func 138) #[] #[]) #[a0, a2]) fun v27 => .leaf
  none [v27])) fun e s2 => onE e (.ite (sl s2 0) (.ret [(.int .i64 8)]) (.op [] (.callv (.func (.func 248) #[] #[]) #[a0, a1]) fun v32 => .ite v32 (.ret [(.int .i64 2)]) (.pure
  (.nilChk a0) fun v34 => .pure (.fieldA 320 v34 0) fun v35 => .look (.load 317 v35) fun v36 => .pure (.fieldA 378 v7 2) fun v39 => .look (.load 4 v39) fun v40 => .pure (.build 378
  #[(0, a2), (1, (.bool true)), (2, v40)]) fun v41 => .op [] (.mapUpd 317 v36 a1 v41) fun _ => .pure (.nilChk a0) fun v43 => .pure (.fieldA 320 v43 1) fun v44 => .look (.load 318
  v44) fun v45 => .op [] (.mapUpd 318 v45 a2 a1) fun _ => .ret [(.int .i64 0)]))) fun _ => .bad)) fun _ => .bad
theorem tree360 (a0 a1 a2 : Value) : treeF cfg360 Go.Proofs.Tryz.f360 [a0, a1, a2] = t360 a0 a1 a2 := by kernel_rfl
theorem calls360 (a0 a1 a2 : Value) {H : Heap} {Q : Value → Heap → Prop} (h : wpH Go.Proofs.Tryz.prog (fun vs H' => Q (retVal vs) H') (t360 a0 a1 a2) (fun _ _ _ => False) H) : CallsH Go.Proofs.Tryz.prog 360 #[a0, a1, a2] H Q :=
  callsH_of_tree cfg360 mixed Go.Proofs.Tryz.func360 (by rw [tree360]; exact h)

/-- (*hostler/source.Source).Out -/
def cfg76 : Cfg := ⟨tyInts, tyMaps, [], [(1, [4])], []⟩
def t76 (a0 a1 : Value) : T := .join (.pure (.nilChk a0) fun v6 => .pure (.fieldA 238 v6 1) fun v7 => .look (.load 235 v7) fun v8 => .op [] (.callv (.func (.func 137) #[] #[])
  #[v8, a1]) fun v10 => .ite v10 (.leaf none [(.bool true)]) (.pure (.nilChk a0) fun v13 => .pure (.fieldA 238 v13 2) fun v14 => .look (.load 236 v14) fun v15 => .op [] (.callv
  (.func (.func 138) #[] #[]) #[v15, a1]) fun v17 => .leaf none [v17])) fun e s1 => onE e (.ret [(sl s1 0)]) fun _ => .bad
theorem tree76 (a0 a1 : Value) : treeF cfg76 Go.Proofs.Tryz.f76 [a0, a1] = t76 a0 a1 := by kernel_rfl
theorem calls76 (a0 a1 : Value) {H : Heap} {Q : Value → Heap → Prop} (h : wpH Go.Proofs.Tryz.prog (fun vs H' => Q (retVal vs) H') (t76 a0 a1) (fun _ _ _ => False) H) : CallsH Go.Proofs.Tryz.prog 76 #[a0, a1] H Q :=
  callsH_of_tree cfg76 mixed Go.Proofs.Tryz.func76 (by rw [tree76]; exact h)

/-- (*hostler/source.Source).Now -/
def cfg85 : Cfg := ⟨tyInts, tyMaps, [], [], []⟩
def t85 (a0 : Value) : T := .pure (.nilChk a0) fun v4 => .pure (.fieldA 238 v4 0) fun v5 => .op [] (.callv (.func (.func 147) #[] #[]) #[v5]) fun v6 => .ret [v6]
theorem tree85 (a0 : Value) : treeF cfg85 Go.Proofs.Tryz.f85 [a0] = t85 a0 := by kernel_rfl
theorem calls85 (a0 : Value) {H : Heap} {Q : Value → Heap → Prop} (h : wpH Go.Proofs.Tryz.prog (fun vs H' => Q (retVal vs) H') (t85 a0) (fun _ _ _ => False) H) : CallsH Go.Proofs.Tryz.prog 85 #[a0] H Q :=
  callsH_of_tree cfg85 mixed Go.Proofs.Tryz.func85 (by rw [tree85]; exact h)

/-- (*hostler/source.Source).Tick -/
def cfg111 : Cfg := ⟨tyInts, tyMaps, [], [], []⟩
def t111 (a0 a1 : Value) : T := .pure (.nilChk a0) fun v6 => .pure (.fieldA 238 v6 0) fun v7 => .op [] (.callv (.func (.func 180) #[] #[]) #[v7, a1]) fun _ => .op [] (.callv (.func
  (.func 181) #[] #[]) #[a0]) fun v11 => .ret [v11]
theorem tree111 (a0 a1 : Value) : treeF cfg111 Go.Proofs.Tryz.f111 [a0, a1] = t111 a0 a1 := by kernel_rfl
theorem calls111 (a0 a1 : Value) {H : Heap} {Q : Value → Heap → Prop} (h : wpH Go.Proofs.Tryz.prog (fun vs H' => Q (retVal vs) H') (t111 a0 a1) (fun _ _ _ => False) H) : CallsH Go.Proofs.Tryz.prog 111 #[a0, a1] H Q :=
  callsH_of_tree cfg111 mixed Go.Proofs.Tryz.func111 (by rw [tree111]; exact h)

/-- (*hostler/source.Source).Ready -/
def cfg112 : Cfg := ⟨tyInts, tyMaps, [], [], []⟩
def t112 (a0 a1 : Value) : T := .pure (.nilChk a0) fun v8 => .pure (.fieldA 238 v8 2) fun v9 => .look (.load 236 v9) fun v10 => .op [] (.callv (.func (.func 183) #[] #[]) #[v10,
  a1]) fun v12 => .op [] (.callv (.func (.func 182) #[] #[]) #[a0, v12]) fun v13 => .pure (.extract v13 0) fun v14 => .pure (.extract v13 1) fun v15 => .ret [v14, v15]
theorem tree112 (a0 a1 : Value) : treeF cfg112 Go.Proofs.Tryz.f112 [a0, a1] = t112 a0 a1 := by kernel_rfl
theorem calls112 (a0 a1 : Value) {H : Heap} {Q : Value → Heap → Prop} (h : wpH Go.Proofs.Tryz.prog (fun vs H' => Q (retVal vs) H') (t112 a0 a1) (fun _ _ _ => False) H) : CallsH Go.Proofs.Tryz.prog 112 #[a0, a1] H Q :=
  callsH_of_tree cfg112 mixed Go.Proofs.Tryz.func112 (by rw [tree112]; exact h)

/-- (*hostler/source.Source).Copy -/
def cfg136 : Cfg := ⟨tyInts, tyMaps, [], [], []⟩
def t136 (a0 : Value) : T := .pure (.nilChk a0) fun v4 => .pure (.fieldA 238 v4 0) fun v5 => .look (.load 234 v5) fun v6 => .pure (.nilChk a0) fun v8 => .pure (.fieldA 238 v8 1)
  fun v9 => .look (.load 235 v9) fun v10 => .pure (.nilChk a0) fun v13 => .pure (.fieldA 238 v13 2) fun v14 => .look (.load 236 v14) fun v15 => .pure (.nilChk a0) fun v18 => .pure
  (.fieldA 238 v18 3) fun v19 => .look (.load 3 v19) fun v20 => .op [(.load 3 v19, v20), (.load 236 v14, v15), (.load 234 v5, v6)] (.callv (.func (.func 194) #[] #[]) #[v10]) fun
  v11 => .op [(.load 3 v19, v20), (.load 234 v5, v6)] (.callv (.func (.func 195) #[] #[]) #[v15]) fun v16 => .pure (.build 238 #[(0, v6), (1, v11), (2, v16), (3, v20)]) fun v21 =>
  .op [] (.box 238 v21) fun v22 => .ret [v22]
theorem tree136 (a0 : Value) : treeF cfg136 Go.Proofs.Tryz.f136 [a0] = t136 a0 := by kernel_rfl
theorem calls136 (a0 : Value) {H : Heap} {Q : Value → Heap → Prop} (h : wpH Go.Proofs.Tryz.prog (fun vs H' => Q (retVal vs) H') (t136 a0) (fun _ _ _ => False) H) : CallsH Go.Proofs.Tryz.prog 136 #[a0] H Q :=
  callsH_of_tree cfg136 mixed Go.Proofs.Tryz.func136 (by rw [tree136]; exact h)

/-- hostler/source.New -/
def cfg153 : Cfg := ⟨tyInts, tyMaps, [], [], []⟩
def t153 (a0 : Value) : T := .op [] (.callv (.func (.func 212) #[] #[]) #[a0]) fun v4 => .op [] (.callv (.func (.func 213) #[] #[]) #[]) fun v5 => .pure (.build 238 #[(1, v4), (2,
  v5)]) fun v6 => .op [] (.box 238 v6) fun v7 => .ret [v7]
theorem tree153 (a0 : Value) : treeF cfg153 Go.Proofs.Tryz.f153 [a0] = t153 a0 := by kernel_rfl
theorem calls153 (a0 : Value) {H : Heap} {Q : Value → Heap → Prop} (h : wpH Go.Proofs.Tryz.prog (fun vs H' => Q (retVal vs) H') (t153 a0) (fun _ _ _ => False) H) : CallsH Go.Proofs.Tryz.prog 153 #[a0] H Q :=
  callsH_of_tree cfg153 mixed Go.Proofs.Tryz.func153 (by rw [tree153]; exact h)

/-- (*hostler/source.Source).Due -/
def cfg181 : Cfg := ⟨tyInts, tyMaps, [], [(1, [2])], []⟩
def t181 (a0 : Value) : T := .join (.pure (.nilChk a0) fun v4 => .pure (.fieldA 238 v4 1) fun v5 => .look (.load 235 v5) fun v6 => .op [(.load 235 v5, v6)] (.callv (.func (.func
  85) #[] #[]) #[a0]) fun v8 => .op [] (.callv (.func (.func 246) #[] #[]) #[v6, v8]) fun v9 => .ite v9 (.leaf none [(.bool true)]) (.pure (.nilChk a0) fun v12 => .pure (.fieldA
  238 v12 2) fun v13 => .look (.load 236 v13) fun v14 => .op [] (.callv (.func (.func 247) #[] #[]) #[v14]) fun v15 => .leaf none [v15])) fun e s1 => onE e (.ret [(sl s1 0)]) fun _
  => .bad
theorem tree181 (a0 : Value) : treeF cfg181 Go.Proofs.Tryz.f181 [a0] = t181 a0 := by kernel_rfl
theorem calls181 (a0 : Value) {H : Heap} {Q : Value → Heap → Prop} (h : wpH Go.Proofs.Tryz.prog (fun vs H' => Q (retVal vs) H') (t181 a0) (fun _ _ _ => False) H) : CallsH Go.Proofs.Tryz.prog 181 #[a0] H Q :=
  callsH_of_tree cfg181 mixed Go.Proofs.Tryz.func181 (by rw [tree181]; exact h)

/-- (*hostler/source.Source).told -/
def cfg182 : Cfg := ⟨tyInts, tyMaps, [], [(1, [4, 5])], []⟩
def t182 (a0 a1 : Value) : T := .join (.pure (.bin .eql 149 (.tmp 6) (.const (.int .i64 0)) a1 (.int .i64 0)) fun v7 => .ite v7 (.op [] (.callv (.func (.func 181) #[] #[]) #[a0])
  fun v10 => .leaf none [v10, a1]) (.leaf none [(.bool false), a1])) fun e s1 => onE e (.ret [(sl s1 0), (sl s1 1)]) fun _ => .bad
theorem tree182 (a0 a1 : Value) : treeF cfg182 Go.Proofs.Tryz.f182 [a0, a1] = t182 a0 a1 := by kernel_rfl
theorem calls182 (a0 a1 : Value) {H : Heap} {Q : Value → Heap → Prop} (h : wpH Go.Proofs.Tryz.prog (fun vs H' => Q (retVal vs) H') (t182 a0 a1) (fun _ _ _ => False) H) : CallsH Go.Proofs.Tryz.prog 182 #[a0, a1] H Q :=
  callsH_of_tree cfg182 mixed Go.Proofs.Tryz.func182 (by rw [tree182]; exact h)

/-- (*hostler/source.Source).Take -/
def cfg285 : Cfg := ⟨tyInts, tyMaps, [(7, [])], [(1, [4, 5])], []⟩
def t285 (a0 : Value) : T := .join (.pure (.nilChk a0) fun v11 => .pure (.fieldA 238 v11 1) fun v12 => .look (.load 235 v12) fun v13 => .both (.op [(.load 235 v12, v13)] (.callv
  (.func (.func 85) #[] #[]) #[a0]) fun v15 => .both (.op [] (.callv (.func (.func 329) #[] #[]) #[v13, v15]) fun v16 => .pure (.extract v16 0) fun v17 => .pure (.extract v16 1)
  fun v18 => .op [] (.alloc 413) fun v4 => .op [] (.store 413 v4 v17) fun _ => .leaf none [v4, v18]) (.op [(.load 235 v12, v13)] (.alloc 413) fun v4 => .op [] (.callv (.func (.func
  329) #[] #[]) #[v13, v15]) fun v16 => .pure (.extract v16 0) fun v17 => .pure (.extract v16 1) fun v18 => .op [] (.store 413 v4 v17) fun _ => .leaf none [v4, v18])) (.op [(.load
  235 v12, v13)] (.alloc 413) fun v4 => .op [(.load 235 v12, v13)] (.callv (.func (.func 85) #[] #[]) #[a0]) fun v15 => .op [] (.callv (.func (.func 329) #[] #[]) #[v13, v15]) fun
  v16 => .pure (.extract v16 0) fun v17 => .pure (.extract v16 1) fun v18 => .op [] (.store 413 v4 v17) fun _ => .leaf none [v4, v18])) fun e s1 => onE e (.ite (sl s1 1) (.pure
  (.fieldA 413 (sl s1 0) 2) fun v20 => .look (.load 3 v20) fun v21 => .ret [v21, (.bool true)]) (.pure (.nilChk a0) fun v24 => .pure (.fieldA 238 v24 2) fun v25 => .look (.load 236
  v25) fun v26 => .op [] (.callv (.func (.func 330) #[] #[]) #[v26]) fun v27 => .pure (.extract v27 0) fun _ => .pure (.extract v27 1) fun v29 => .pure (.extract v27 2) fun v30 =>
  .join (.ite v30 (.pure (.nilChk a0) fun v33 => .pure (.fieldA 238 v33 3) fun v34 => .look (.load 3 v34) fun v35 => .pure (.bin .sub 3 (.tmp 35) (.const (.int .i64 1)) v35 (.int
  .i64 1)) fun v36 => .pure (.nilChk a0) fun v37 => .pure (.fieldA 238 v37 3) fun v38 => .op [] (.store 3 v38 v36) fun _ => .leaf none []) (.leaf none [])) fun e _ => onE e (.ret
  [v29, v30]) fun _ => .bad)) fun _ => .bad
theorem tree285 (a0 : Value) : treeF cfg285 Go.Proofs.Tryz.f285 [a0] = t285 a0 := by kernel_rfl
theorem calls285 (a0 : Value) {H : Heap} {Q : Value → Heap → Prop} (h : wpH Go.Proofs.Tryz.prog (fun vs H' => Q (retVal vs) H') (t285 a0) (fun _ _ _ => False) H) : CallsH Go.Proofs.Tryz.prog 285 #[a0] H Q :=
  callsH_of_tree cfg285 mixed Go.Proofs.Tryz.func285 (by rw [tree285]; exact h)

/-- (*hostler/source.Source).Wait -/
def cfg333 : Cfg := ⟨tyInts, tyMaps, [(6, [])], [], []⟩
def t333 (a0 a1 a2 : Value) : T := .pure (.nilChk a0) fun v10 => .pure (.fieldA 238 v10 1) fun v11 => .look (.load 235 v11) fun v12 => .op [] (.callv (.func (.func 137) #[] #[])
  #[v12, a2]) fun v14 => .ite v14 (.ret [(.bool false), (.int .i64 8)]) (.pure (.nilChk a0) fun v16 => .pure (.fieldA 238 v16 2) fun v17 => .look (.load 236 v17) fun v18 => .op []
  (.callv (.func (.func 360) #[] #[]) #[v18, a1, a2]) fun v21 => .join (.pure (.bin .eql 149 (.tmp 22) (.const (.int .i64 0)) v21 (.int .i64 0)) fun v23 => .ite v23 (.pure (.nilChk
  a0) fun v25 => .pure (.fieldA 238 v25 3) fun v26 => .look (.load 3 v26) fun v27 => .pure (.bin .add 3 (.tmp 27) (.const (.int .i64 1)) v27 (.int .i64 1)) fun v28 => .pure
  (.nilChk a0) fun v29 => .pure (.fieldA 238 v29 3) fun v30 => .op [] (.store 3 v30 v28) fun _ => .leaf none []) (.leaf none [])) fun e _ => onE e (.op [] (.callv (.func (.func
  182) #[] #[]) #[a0, v21]) fun v33 => .pure (.extract v33 0) fun v34 => .pure (.extract v33 1) fun v35 => .ret [v34, v35]) fun _ => .bad)
theorem tree333 (a0 a1 a2 : Value) : treeF cfg333 Go.Proofs.Tryz.f333 [a0, a1, a2] = t333 a0 a1 a2 := by kernel_rfl
theorem calls333 (a0 a1 a2 : Value) {H : Heap} {Q : Value → Heap → Prop} (h : wpH Go.Proofs.Tryz.prog (fun vs H' => Q (retVal vs) H') (t333 a0 a1 a2) (fun _ _ _ => False) H) : CallsH Go.Proofs.Tryz.prog 333 #[a0, a1, a2] H Q :=
  callsH_of_tree cfg333 mixed Go.Proofs.Tryz.func333 (by rw [tree333]; exact h)

/-- (*hostler/source.Source).Sleep -/
def cfg334 : Cfg := ⟨tyInts, tyMaps, [], [], []⟩
def t334 (a0 a1 a2 a3 : Value) : T := .pure (.nilChk a0) fun v12 => .pure (.fieldA 238 v12 2) fun v13 => .look (.load 236 v13) fun v14 => .op [] (.callv (.func (.func 138) #[] #[])
  #[v14, a2]) fun v16 => .ite v16 (.pure (.nilChk a0) fun v18 => .pure (.fieldA 238 v18 1) fun v19 => .look (.load 235 v19) fun v20 => .op [] (.callv (.func (.func 194) #[] #[])
  #[v20]) fun v21 => .op [] (.callv (.func (.func 361) #[] #[]) #[v21, a1, a2, (.int .i64 0)]) fun v24 => .pure (.bin .eql 149 (.tmp 25) (.const (.int .i64 1)) v24 (.int .i64 1))
  fun v26 => .ite v26 (.ret [(.bool false), v24]) (.ret [(.bool false), (.int .i64 8)])) (.pure (.nilChk a0) fun v30 => .pure (.fieldA 238 v30 1) fun v31 => .look (.load 235 v31)
  fun v32 => .pure (.nilChk a0) fun v36 => .pure (.fieldA 238 v36 0) fun v37 => .op [(.load 235 v31, v32)] (.callv (.func (.func 245) #[] #[]) #[v37, a3]) fun v39 => .op [] (.callv
  (.func (.func 361) #[] #[]) #[v32, a1, a2, v39]) fun v40 => .op [] (.callv (.func (.func 182) #[] #[]) #[a0, v40]) fun v41 => .pure (.extract v41 0) fun v42 => .pure (.extract
  v41 1) fun v43 => .ret [v42, v43])
theorem tree334 (a0 a1 a2 a3 : Value) : treeF cfg334 Go.Proofs.Tryz.f334 [a0, a1, a2, a3] = t334 a0 a1 a2 a3 := by kernel_rfl
theorem calls334 (a0 a1 a2 a3 : Value) {H : Heap} {Q : Value → Heap → Prop} (h : wpH Go.Proofs.Tryz.prog (fun vs H' => Q (retVal vs) H') (t334 a0 a1 a2 a3) (fun _ _ _ => False) H) : CallsH Go.Proofs.Tryz.prog 334 #[a0, a1, a2, a3] H Q :=
  callsH_of_tree cfg334 mixed Go.Proofs.Tryz.func334 (by rw [tree334]; exact h)

/-- maps.Clone[map[uint16]hostler/poll.state,uint16,hostler/poll.state] -/
def cfg250 : Cfg := ⟨tyInts, tyMaps, [], [], []⟩
def t250 (a0 : Value) : T := .pure (.bin .eql 317 (.tmp 3) (.const (.map none)) a0 (.map none)) fun v4 => .ite v4 (.ret [(.map none)]) (.pure (.mkI 317 a0) fun v6 => .op [] (.callv
  (.func (.func 294) #[] #[]) #[v6]) fun v7 => .op [] (.tAssert v7 20 317 false) fun v8 => .ret [v8])
theorem tree250 (a0 : Value) : treeF cfg250 Go.Proofs.Tryz.f250 [a0] = t250 a0 := by kernel_rfl
theorem calls250 (a0 : Value) {H : Heap} {Q : Value → Heap → Prop} (h : wpH Go.Proofs.Tryz.prog (fun vs H' => Q (retVal vs) H') (t250 a0) (fun _ _ _ => False) H) : CallsH Go.Proofs.Tryz.prog 250 #[a0] H Q :=
  callsH_of_tree cfg250 mixed Go.Proofs.Tryz.func250 (by rw [tree250]; exact h)

/-- maps.Clone[map[int]uint16,int,uint16] -/
def cfg251 : Cfg := ⟨tyInts, tyMaps, [], [], []⟩
def t251 (a0 : Value) : T := .pure (.bin .eql 318 (.tmp 3) (.const (.map none)) a0 (.map none)) fun v4 => .ite v4 (.ret [(.map none)]) (.pure (.mkI 318 a0) fun v6 => .op [] (.callv
  (.func (.func 294) #[] #[]) #[v6]) fun v7 => .op [] (.tAssert v7 20 318 false) fun v8 => .ret [v8])
theorem tree251 (a0 : Value) : treeF cfg251 Go.Proofs.Tryz.f251 [a0] = t251 a0 := by kernel_rfl
theorem calls251 (a0 : Value) {H : Heap} {Q : Value → Heap → Prop} (h : wpH Go.Proofs.Tryz.prog (fun vs H' => Q (retVal vs) H') (t251 a0) (fun _ _ _ => False) H) : CallsH Go.Proofs.Tryz.prog 251 #[a0] H Q :=
  callsH_of_tree cfg251 mixed Go.Proofs.Tryz.func251 (by rw [tree251]; exact h)

/-- cmp.Or[int] -/
def cfg384 : Cfg := ⟨tyInts, tyMaps, [], [], [(3, [8])]⟩
def t384 (a0 : Value) : T := .pure (.builtin .len #[33] 3 #[false] #[a0]) fun v7 => .loop [(.int .i64 0)] (fun s1 => .pure (.bin .lss 3 (.tmp 8) (.tmp 7) (sl s1 0) v7) fun v9 =>
  .ite v9 (.pure (.indexA 33 a0 (sl s1 0)) fun v10 => .look (.load 3 v10) fun v11 => .pure (.bin .neq 3 (.tmp 12) (.tmp 13) v11 (.int .i64 0)) fun v14 => .ite v14 (.ret [v11])
  (.pure (.bin .add 3 (.tmp 8) (.const (.int .i64 1)) (sl s1 0) (.int .i64 1)) fun v16 => .leaf none [v16])) (.leaf (some 0) [(sl s1 0)])) (fun x _ => (if Nat.beq x 0 then .ret
  [(.int .i64 0)] else .bad))
theorem tree384 (a0 : Value) : treeF cfg384 Go.Proofs.Tryz.f384 [a0] = t384 a0 := by kernel_rfl
theorem calls384 (a0 : Value) {H : Heap} {Q : Value → Heap → Prop} (h : wpH Go.Proofs.Tryz.prog (fun vs H' => Q (retVal vs) H') (t384 a0) (fun _ _ _ => False) H) : CallsH Go.Proofs.Tryz.prog 384 #[a0] H Q :=
  callsH_of_tree cfg384 mixed Go.Proofs.Tryz.func384 (by rw [tree384]; exact h)

/-- cmp.Compare[int64] -/
def cfg385 : Cfg := ⟨tyInts, tyMaps, [], [], []⟩
def t385 (a0 a1 : Value) : T := .op [] (.callv (.func (.func 398) #[] #[]) #[a0]) fun v8 => .op [] (.callv (.func (.func 398) #[] #[]) #[a1]) fun v10 => .ite v8 (.ite v10 (.ret
  [(.int .i64 0)]) (.ret [(.int .i64 (-1))])) (.ite v10 (.ret [(.int .i64 1)]) (.pure (.bin .lss 2 (.tmp 14) (.tmp 15) a0 a1) fun v16 => .ite v16 (.ret [(.int .i64 (-1))]) (.pure
  (.bin .gtr 2 (.tmp 17) (.tmp 18) a0 a1) fun v19 => .ite v19 (.ret [(.int .i64 1)]) (.ret [(.int .i64 0)]))))
theorem tree385 (a0 a1 : Value) : treeF cfg385 Go.Proofs.Tryz.f385 [a0, a1] = t385 a0 a1 := by kernel_rfl
theorem calls385 (a0 a1 : Value) {H : Heap} {Q : Value → Heap → Prop} (h : wpH Go.Proofs.Tryz.prog (fun vs H' => Q (retVal vs) H') (t385 a0 a1) (fun _ _ _ => False) H) : CallsH Go.Proofs.Tryz.prog 385 #[a0, a1] H Q :=
  callsH_of_tree cfg385 mixed Go.Proofs.Tryz.func385 (by rw [tree385]; exact h)

/-- cmp.Compare[uint64] -/
def cfg386 : Cfg := ⟨tyInts, tyMaps, [], [], []⟩
def t386 (a0 a1 : Value) : T := .op [] (.callv (.func (.func 399) #[] #[]) #[a0]) fun v8 => .op [] (.callv (.func (.func 399) #[] #[]) #[a1]) fun v10 => .ite v8 (.ite v10 (.ret
  [(.int .i64 0)]) (.ret [(.int .i64 (-1))])) (.ite v10 (.ret [(.int .i64 1)]) (.pure (.bin .lss 81 (.tmp 14) (.tmp 15) a0 a1) fun v16 => .ite v16 (.ret [(.int .i64 (-1))]) (.pure
  (.bin .gtr 81 (.tmp 17) (.tmp 18) a0 a1) fun v19 => .ite v19 (.ret [(.int .i64 1)]) (.ret [(.int .i64 0)]))))
theorem tree386 (a0 a1 : Value) : treeF cfg386 Go.Proofs.Tryz.f386 [a0, a1] = t386 a0 a1 := by kernel_rfl
theorem calls386 (a0 a1 : Value) {H : Heap} {Q : Value → Heap → Prop} (h : wpH Go.Proofs.Tryz.prog (fun vs H' => Q (retVal vs) H') (t386 a0 a1) (fun _ _ _ => False) H) : CallsH Go.Proofs.Tryz.prog 386 #[a0, a1] H Q :=
  callsH_of_tree cfg386 mixed Go.Proofs.Tryz.func386 (by rw [tree386]; exact h)

/-- cmp.Compare[int] -/
def cfg387 : Cfg := ⟨tyInts, tyMaps, [], [], []⟩
def t387 (a0 a1 : Value) : T := .op [] (.callv (.func (.func 400) #[] #[]) #[a0]) fun v8 => .op [] (.callv (.func (.func 400) #[] #[]) #[a1]) fun v10 => .ite v8 (.ite v10 (.ret
  [(.int .i64 0)]) (.ret [(.int .i64 (-1))])) (.ite v10 (.ret [(.int .i64 1)]) (.pure (.bin .lss 3 (.tmp 14) (.tmp 15) a0 a1) fun v16 => .ite v16 (.ret [(.int .i64 (-1))]) (.pure
  (.bin .gtr 3 (.tmp 17) (.tmp 18) a0 a1) fun v19 => .ite v19 (.ret [(.int .i64 1)]) (.ret [(.int .i64 0)]))))
theorem tree387 (a0 a1 : Value) : treeF cfg387 Go.Proofs.Tryz.f387 [a0, a1] = t387 a0 a1 := by kernel_rfl
theorem calls387 (a0 a1 : Value) {H : Heap} {Q : Value → Heap → Prop} (h : wpH Go.Proofs.Tryz.prog (fun vs H' => Q (retVal vs) H') (t387 a0 a1) (fun _ _ _ => False) H) : CallsH Go.Proofs.Tryz.prog 387 #[a0, a1] H Q :=
  callsH_of_tree cfg387 mixed Go.Proofs.Tryz.func387 (by rw [tree387]; exact h)

/-- cmp.isNaN[int64] -/
def cfg398 : Cfg := ⟨tyInts, tyMaps, [], [], []⟩
def t398 (a0 : Value) : T := .pure (.bin .neq 2 (.tmp 3) (.tmp 4) a0 a0) fun v5 => .ret [v5]
theorem tree398 (a0 : Value) : treeF cfg398 Go.Proofs.Tryz.f398 [a0] = t398 a0 := by kernel_rfl
theorem calls398 (a0 : Value) {H : Heap} {Q : Value → Heap → Prop} (h : wpH Go.Proofs.Tryz.prog (fun vs H' => Q (retVal vs) H') (t398 a0) (fun _ _ _ => False) H) : CallsH Go.Proofs.Tryz.prog 398 #[a0] H Q :=
  callsH_of_tree cfg398 mixed Go.Proofs.Tryz.func398 (by rw [tree398]; exact h)

/-- cmp.isNaN[uint64] -/
def cfg399 : Cfg := ⟨tyInts, tyMaps, [], [], []⟩
def t399 (a0 : Value) : T := .pure (.bin .neq 81 (.tmp 3) (.tmp 4) a0 a0) fun v5 => .ret [v5]
theorem tree399 (a0 : Value) : treeF cfg399 Go.Proofs.Tryz.f399 [a0] = t399 a0 := by kernel_rfl
theorem calls399 (a0 : Value) {H : Heap} {Q : Value → Heap → Prop} (h : wpH Go.Proofs.Tryz.prog (fun vs H' => Q (retVal vs) H') (t399 a0) (fun _ _ _ => False) H) : CallsH Go.Proofs.Tryz.prog 399 #[a0] H Q :=
  callsH_of_tree cfg399 mixed Go.Proofs.Tryz.func399 (by rw [tree399]; exact h)

/-- cmp.isNaN[int] -/
def cfg400 : Cfg := ⟨tyInts, tyMaps, [], [], []⟩
def t400 (a0 : Value) : T := .pure (.bin .neq 3 (.tmp 3) (.tmp 4) a0 a0) fun v5 => .ret [v5]
theorem tree400 (a0 : Value) : treeF cfg400 Go.Proofs.Tryz.f400 [a0] = t400 a0 := by kernel_rfl
theorem calls400 (a0 : Value) {H : Heap} {Q : Value → Heap → Prop} (h : wpH Go.Proofs.Tryz.prog (fun vs H' => Q (retVal vs) H') (t400 a0) (fun _ _ _ => False) H) : CallsH Go.Proofs.Tryz.prog 400 #[a0] H Q :=
  callsH_of_tree cfg400 mixed Go.Proofs.Tryz.func400 (by rw [tree400]; exact h)

end Go.Tr
