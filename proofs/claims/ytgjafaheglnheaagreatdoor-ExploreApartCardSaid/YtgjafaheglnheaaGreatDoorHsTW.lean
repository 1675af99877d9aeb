/- The trees of Go functions of this program, each with the equation that says so and the law that leads from a proof over the tree to the call. Written by a program of this session; no condition. -/
import Derived.Test.YtgjafaheglnheaaGreatDoorHsBase
set_option maxRecDepth 100000
namespace Go.Tr
/-- (*hostler/world.World).Step -/
def cfg41 : Cfg := ⟨tyInts, tyMaps, [], [(8, [34])], []⟩
def t41 (a0 a1 : Value) : T := .op [] (.box 40 a1) fun v3 => .pure (.fieldA 40 v3 0) fun v7 => .look (.load 5 v7) fun v8 => .pure (.bin .eql 5 (.tmp 8) (.const (.int .u8 0)) v8
  (.int .u8 0)) fun v10 => .ite v10 (.look (.load 40 v3) fun v12 => .op [] (.callv (.func (.func 109) #[] #[]) #[a0, v12]) fun v13 => .ret [v13]) (.pure (.bin .eql 5 (.tmp 8)
  (.const (.int .u8 1)) v8 (.int .u8 1)) fun v15 => .ite v15 (.pure (.nilChk a0) fun v18 => .pure (.fieldA 193 v18 8) fun v19 => .look (.load 112 v19) fun v20 => .pure (.fieldA 40
  v3 4) fun v21 => .look (.load 2 v21) fun v22 => .op [] (.callv (.func (.func 111) #[] #[]) #[v20, v22]) fun v23 => .op [] (.callv (.func (.func 110) #[] #[]) #[a0, v23]) fun _ =>
  .ret [(.bool true)]) (.pure (.bin .eql 5 (.tmp 8) (.const (.int .u8 2)) v8 (.int .u8 2)) fun v26 => .ite v26 (.join (.pure (.fieldA 40 v3 2) fun v27 => .look (.load 3 v27) fun
  v28 => .pure (.bin .lss 3 (.tmp 28) (.const (.int .i64 0)) v28 (.int .i64 0)) fun v29 => .ite v29 (.leaf none [(.bool true)]) (.pure (.fieldA 40 v3 2) fun v31 => .look (.load 3
  v31) fun v32 => .pure (.bin .geq 3 (.tmp 32) (.const (.int .i64 65536)) v32 (.int .i64 65536)) fun v33 => .leaf none [v33])) fun e s1 => onE e (.ite (sl s1 0) (.ret [(.bool
  false)]) (.pure (.nilChk a0) fun v37 => .pure (.fieldA 193 v37 8) fun v38 => .look (.load 112 v38) fun v39 => .pure (.fieldA 40 v3 2) fun v40 => .look (.load 3 v40) fun v41 =>
  .pure (.conv 3 197 v41) fun v42 => .op [] (.callv (.func (.func 112) #[] #[]) #[v39, v42]) fun v43 => .pure (.extract v43 0) fun v44 => .pure (.extract v43 1) fun v45 => .op []
  (.callv (.func (.func 110) #[] #[]) #[a0, v44]) fun _ => .pure (.bin .eql 149 (.tmp 49) (.const (.int .i64 0)) v45 (.int .i64 0)) fun v50 => .ret [v50])) fun _ => .bad) (.ret
  [(.bool false)])))
theorem tree41 (a0 a1 : Value) : treeF cfg41 Go.Proofs.Tryz.f41 [a0, a1] = t41 a0 a1 := by kernel_rfl
theorem calls41 (a0 a1 : Value) {H : Heap} {Q : Value → Heap → Prop} (h : wpH Go.Proofs.Tryz.prog (fun vs H' => Q (retVal vs) H') (t41 a0 a1) (fun _ _ _ => False) H) : CallsH Go.Proofs.Tryz.prog 41 #[a0, a1] H Q :=
  callsH_of_tree cfg41 mixed Go.Proofs.Tryz.func41 (by rw [tree41]; exact h)

/-- (*hostler/world.World).Events -/
def cfg42 : Cfg := ⟨tyInts, tyMaps, [], [], []⟩
def t42 (a0 : Value) : T := .pure (.nilChk a0) fun v4 => .pure (.fieldA 193 v4 12) fun v5 => .op [] (.callv (.func (.func 113) #[] #[]) #[v5, (.int .i64 0)]) fun v6 => .ret [v6]
theorem tree42 (a0 : Value) : treeF cfg42 Go.Proofs.Tryz.f42 [a0] = t42 a0 := by kernel_rfl
theorem calls42 (a0 : Value) {H : Heap} {Q : Value → Heap → Prop} (h : wpH Go.Proofs.Tryz.prog (fun vs H' => Q (retVal vs) H') (t42 a0) (fun _ _ _ => False) H) : CallsH Go.Proofs.Tryz.prog 42 #[a0] H Q :=
  callsH_of_tree cfg42 mixed Go.Proofs.Tryz.func42 (by rw [tree42]; exact h)

/-- (*hostler/world.World).Run -/
def cfg43 : Cfg := ⟨tyInts, tyMaps, [], [], [(3, [5, 10])]⟩
def t43 (a0 a1 : Value) : T := .pure (.builtin .len #[56] 3 #[false] #[a1]) fun v9 => .loop [(.int .i64 0), (.int .i64 0)] (fun s1 => .pure (.bin .lss 3 (.tmp 10) (.tmp 9) (sl s1
  1) v9) fun v11 => .ite v11 (.pure (.indexA 56 a1 (sl s1 1)) fun v12 => .look (.load 40 v12) fun v13 => .op [] (.alloc 40) fun v7 => .op [] (.store 40 v7 v13) fun _ => .look
  (.load 40 v7) fun v15 => .op [] (.callv (.func (.func 41) #[] #[]) #[a0, v15]) fun v16 => .ite v16 (.pure (.bin .add 3 (.tmp 17) (.const (.int .i64 1)) (sl s1 0) (.int .i64 1))
  fun v18 => .pure (.bin .add 3 (.tmp 10) (.const (.int .i64 1)) (sl s1 1) (.int .i64 1)) fun v19 => .leaf none [v18, v19]) (.pure (.bin .add 3 (.tmp 10) (.const (.int .i64 1)) (sl
  s1 1) (.int .i64 1)) fun v19 => .leaf none [(sl s1 0), v19])) (.leaf (some 0) [(sl s1 0), (sl s1 1)])) (fun x s2 => (if Nat.beq x 0 then .ret [(sl s2 0)] else .bad))
theorem tree43 (a0 a1 : Value) : treeF cfg43 Go.Proofs.Tryz.f43 [a0, a1] = t43 a0 a1 := by kernel_rfl
theorem calls43 (a0 a1 : Value) {H : Heap} {Q : Value → Heap → Prop} (h : wpH Go.Proofs.Tryz.prog (fun vs H' => Q (retVal vs) H') (t43 a0 a1) (fun _ _ _ => False) H) : CallsH Go.Proofs.Tryz.prog 43 #[a0, a1] H Q :=
  callsH_of_tree cfg43 mixed Go.Proofs.Tryz.func43 (by rw [tree43]; exact h)

/-- (*hostler/world.World).Memory -/
def cfg44 : Cfg := ⟨tyInts, tyMaps, [], [], []⟩
def t44 (a0 : Value) : T := .pure (.nilChk a0) fun v4 => .pure (.fieldA 193 v4 1) fun v5 => .look (.load 63 v5) fun v6 => .op [] (.callv (.func (.func 114) #[] #[]) #[v6]) fun v7
  => .ret [v7]
theorem tree44 (a0 : Value) : treeF cfg44 Go.Proofs.Tryz.f44 [a0] = t44 a0 := by kernel_rfl
theorem calls44 (a0 : Value) {H : Heap} {Q : Value → Heap → Prop} (h : wpH Go.Proofs.Tryz.prog (fun vs H' => Q (retVal vs) H') (t44 a0) (fun _ _ _ => False) H) : CallsH Go.Proofs.Tryz.prog 44 #[a0] H Q :=
  callsH_of_tree cfg44 mixed Go.Proofs.Tryz.func44 (by rw [tree44]; exact h)

/-- (*hostler/world.World).Config -/
def cfg53 : Cfg := ⟨tyInts, tyMaps, [], [], []⟩
def t53 (a0 : Value) : T := .op [] (.alloc 24) fun v2 => .pure (.nilChk a0) fun v4 => .pure (.fieldA 193 v4 0) fun v5 => .look (.load 24 v5) fun v6 => .op [] (.store 24 v2 v6) fun
  _ => .look (.resv 24 v2) fun r0 => .ret [r0]
theorem tree53 (a0 : Value) : treeF cfg53 Go.Proofs.Tryz.f53 [a0] = t53 a0 := by kernel_rfl
theorem calls53 (a0 : Value) {H : Heap} {Q : Value → Heap → Prop} (h : wpH Go.Proofs.Tryz.prog (fun vs H' => Q (retVal vs) H') (t53 a0) (fun _ _ _ => False) H) : CallsH Go.Proofs.Tryz.prog 53 #[a0] H Q :=
  callsH_of_tree cfg53 mixed Go.Proofs.Tryz.func53 (by rw [tree53]; exact h)

/-- (*hostler/world.World).Status -/
def cfg58 : Cfg := ⟨tyInts, tyMaps, [], [], []⟩
def t58 (a0 a1 : Value) : T := .pure (.nilChk a0) fun v6 => .pure (.fieldA 193 v6 4) fun v7 => .look (.load 186 v7) fun v8 => .pure (.nilChk a0) fun v10 => .pure (.fieldA 193 v10
  1) fun v11 => .look (.load 63 v11) fun v12 => .op [(.load 186 v7, v8)] (.callv (.func (.func 114) #[] #[]) #[v12]) fun v13 => .op [] (.callv (.func (.func 124) #[] #[]) #[v8,
  v13, a1]) fun v15 => .ret [v15]
theorem tree58 (a0 a1 : Value) : treeF cfg58 Go.Proofs.Tryz.f58 [a0, a1] = t58 a0 a1 := by kernel_rfl
theorem calls58 (a0 a1 : Value) {H : Heap} {Q : Value → Heap → Prop} (h : wpH Go.Proofs.Tryz.prog (fun vs H' => Q (retVal vs) H') (t58 a0 a1) (fun _ _ _ => False) H) : CallsH Go.Proofs.Tryz.prog 58 #[a0, a1] H Q :=
  callsH_of_tree cfg58 mixed Go.Proofs.Tryz.func58 (by rw [tree58]; exact h)

/-- (*hostler/world.World).Quiet -/
def cfg62 : Cfg := ⟨tyInts, tyMaps, [], [(4, [23])], [(2, [10])]⟩
def t62 (a0 : Value) : T := .pure (.nilChk a0) fun v6 => .pure (.fieldA 193 v6 10) fun v7 => .look (.load 189 v7) fun v8 => .pure (.builtin .len #[189] 3 #[false] #[v8]) fun v9 =>
  .loop [(.int .i64 0)] (fun s1 => .pure (.bin .lss 3 (.tmp 10) (.tmp 9) (sl s1 0) v9) fun v11 => .ite v11 (.pure (.indexA 189 v8 (sl s1 0)) fun v13 => .look (.load 98 v13) fun v14
  => .op [] (.alloc 98) fun v4 => .op [] (.store 98 v4 v14) fun _ => .join (.pure (.fieldA 98 v4 0) fun v15 => .look (.load 92 v15) fun v16 => .pure (.bin .neq 92 (.tmp 16) (.const
  (.int .i64 0)) v16 (.int .i64 0)) fun v17 => .ite v17 (.op [] (.callv (.func (.func 67) #[] #[]) #[a0, (sl s1 0)]) fun v21 => .pure (.un .not v21) fun v22 => .leaf none [v22])
  (.leaf none [(.bool false)])) fun e s2 => onE e (.ite (sl s2 0) (.ret [(.bool false)]) (.pure (.bin .add 3 (.tmp 10) (.const (.int .i64 1)) (sl s1 0) (.int .i64 1)) fun v24 =>
  .leaf none [v24])) fun _ => .bad) (.leaf (some 0) [(sl s1 0)])) (fun x _ => (if Nat.beq x 0 then .ret [(.bool true)] else .bad))
theorem tree62 (a0 : Value) : treeF cfg62 Go.Proofs.Tryz.f62 [a0] = t62 a0 := by kernel_rfl
theorem calls62 (a0 : Value) {H : Heap} {Q : Value → Heap → Prop} (h : wpH Go.Proofs.Tryz.prog (fun vs H' => Q (retVal vs) H') (t62 a0) (fun _ _ _ => False) H) : CallsH Go.Proofs.Tryz.prog 62 #[a0] H Q :=
  callsH_of_tree cfg62 mixed Go.Proofs.Tryz.func62 (by rw [tree62]; exact h)

/-- (*hostler/world.World).Machine -/
def cfg66 : Cfg := ⟨tyInts, tyMaps, [], [(1, [15])], []⟩
def t66 (a0 a1 : Value) : T := .op [] (.alloc 98) fun v4 => .join (.pure (.bin .lss 3 (.tmp 5) (.const (.int .i64 0)) a1 (.int .i64 0)) fun v6 => .ite v6 (.leaf none [(.bool
  true)]) (.pure (.nilChk a0) fun v10 => .pure (.fieldA 193 v10 0) fun v11 => .pure (.fieldA 24 v11 1) fun v12 => .look (.load 3 v12) fun v13 => .pure (.bin .geq 3 (.tmp 8) (.tmp
  13) a1 v13) fun v14 => .leaf none [v14])) fun e s1 => onE e (.ite (sl s1 0) (.op [] (.callv (.func (.func 129) #[] #[]) #[]) fun v16 => .op [] (.store 98 v4 v16) fun _ => .look
  (.resv 98 v4) fun r0 => .ret [r0]) (.pure (.nilChk a0) fun v18 => .pure (.fieldA 193 v18 10) fun v19 => .look (.load 189 v19) fun v20 => .pure (.indexA 189 v20 a1) fun v22 =>
  .look (.load 98 v22) fun v23 => .op [] (.callv (.func (.func 130) #[] #[]) #[v23]) fun v24 => .op [] (.store 98 v4 v24) fun _ => .look (.resv 98 v4) fun r0 => .ret [r0])) fun _
  => .bad
theorem tree66 (a0 a1 : Value) : treeF cfg66 Go.Proofs.Tryz.f66 [a0, a1] = t66 a0 a1 := by kernel_rfl
theorem calls66 (a0 a1 : Value) {H : Heap} {Q : Value → Heap → Prop} (h : wpH Go.Proofs.Tryz.prog (fun vs H' => Q (retVal vs) H') (t66 a0 a1) (fun _ _ _ => False) H) : CallsH Go.Proofs.Tryz.prog 66 #[a0, a1] H Q :=
  callsH_of_tree cfg66 mixed Go.Proofs.Tryz.func66 (by rw [tree66]; exact h)

/-- (*hostler/world.World).Asleep -/
def cfg67 : Cfg := ⟨tyInts, tyMaps, [], [(1, [4])], []⟩
def t67 (a0 a1 : Value) : T := .join (.pure (.bin .geq 3 (.tmp 5) (.const (.int .i64 0)) a1 (.int .i64 0)) fun v6 => .ite v6 (.pure (.nilChk a0) fun v10 => .pure (.fieldA 193 v10
  0) fun v11 => .pure (.fieldA 24 v11 1) fun v12 => .look (.load 3 v12) fun v13 => .pure (.bin .lss 3 (.tmp 8) (.tmp 13) a1 v13) fun v14 => .ite v14 (.pure (.nilChk a0) fun v18 =>
  .pure (.fieldA 193 v18 10) fun v19 => .look (.load 189 v19) fun v20 => .pure (.indexA 189 v20 a1) fun v22 => .pure (.fieldA 98 v22 0) fun v23 => .look (.load 92 v23) fun v24 =>
  .pure (.bin .eql 92 (.tmp 24) (.const (.int .i64 16)) v24 (.int .i64 16)) fun v25 => .ite v25 (.pure (.nilChk a0) fun v29 => .pure (.fieldA 193 v29 1) fun v30 => .look (.load 63
  v30) fun v31 => .pure (.nilChk a0) fun v34 => .pure (.fieldA 193 v34 3) fun v35 => .look (.load 3 v35) fun v36 => .pure (.bin .add 3 (.tmp 36) (.tmp 37) v36 a1) fun v38 => .op
  [(.load 3 v35, v36)] (.callv (.func (.func 114) #[] #[]) #[v31]) fun v32 => .op [] (.callv (.func (.func 131) #[] #[]) #[v32, v38]) fun v39 => .pure (.bin .eql 81 (.tmp 39)
  (.const (.int .u64 0)) v39 (.int .u64 0)) fun v40 => .leaf none [v40]) (.leaf none [(.bool false)])) (.leaf none [(.bool false)])) (.leaf none [(.bool false)])) fun e s1 => onE e
  (.ret [(sl s1 0)]) fun _ => .bad
theorem tree67 (a0 a1 : Value) : treeF cfg67 Go.Proofs.Tryz.f67 [a0, a1] = t67 a0 a1 := by kernel_rfl
theorem calls67 (a0 a1 : Value) {H : Heap} {Q : Value → Heap → Prop} (h : wpH Go.Proofs.Tryz.prog (fun vs H' => Q (retVal vs) H') (t67 a0 a1) (fun _ _ _ => False) H) : CallsH Go.Proofs.Tryz.prog 67 #[a0, a1] H Q :=
  callsH_of_tree cfg67 mixed Go.Proofs.Tryz.func67 (by rw [tree67]; exact h)

/-- (*hostler/world.World).Source -/
def cfg75 : Cfg := ⟨tyInts, tyMaps, [], [], []⟩
def t75 (a0 : Value) : T := .pure (.nilChk a0) fun v4 => .pure (.fieldA 193 v4 8) fun v5 => .look (.load 112 v5) fun v6 => .op [] (.callv (.func (.func 136) #[] #[]) #[v6]) fun v7
  => .ret [v7]
theorem tree75 (a0 : Value) : treeF cfg75 Go.Proofs.Tryz.f75 [a0] = t75 a0 := by kernel_rfl
theorem calls75 (a0 : Value) {H : Heap} {Q : Value → Heap → Prop} (h : wpH Go.Proofs.Tryz.prog (fun vs H' => Q (retVal vs) H') (t75 a0) (fun _ _ _ => False) H) : CallsH Go.Proofs.Tryz.prog 75 #[a0] H Q :=
  callsH_of_tree cfg75 mixed Go.Proofs.Tryz.func75 (by rw [tree75]; exact h)

/-- (*hostler/world.World).Idle -/
def cfg87 : Cfg := ⟨tyInts, tyMaps, [], [], []⟩
def t87 (a0 : Value) : T := .pure (.nilChk a0) fun v4 => .pure (.fieldA 193 v4 9) fun v5 => .look (.load 147 v5) fun v6 => .op [] (.callv (.func (.func 148) #[] #[]) #[v6]) fun v7
  => .ret [v7]
theorem tree87 (a0 : Value) : treeF cfg87 Go.Proofs.Tryz.f87 [a0] = t87 a0 := by kernel_rfl
theorem calls87 (a0 : Value) {H : Heap} {Q : Value → Heap → Prop} (h : wpH Go.Proofs.Tryz.prog (fun vs H' => Q (retVal vs) H') (t87 a0) (fun _ _ _ => False) H) : CallsH Go.Proofs.Tryz.prog 87 #[a0] H Q :=
  callsH_of_tree cfg87 mixed Go.Proofs.Tryz.func87 (by rw [tree87]; exact h)

/-- hostler/world.New -/
def cfg90 : Cfg := ⟨tyInts, tyMaps, [], [(3, [4]), (25, [2, 3])], [(8, [69]), (15, [93])]⟩
def t90 (a0 : Value) : T := .op [] (.box 24 a0) fun v1 => .look (.load 24 v1) fun v7 => .op [] (.callv (.func (.func 151) #[] #[]) #[v7]) fun v8 => .pure (.un .not v8) fun v9 =>
  .ite v9 (.ret [(.pointer none), (.int .i64 1)]) (.join (.look (.load 24 v1) fun v10 => .pure (.fieldA 24 v1 0) fun v11 => .look (.load 3 v11) fun v12 => .pure (.bin .add 3 (.tmp
  12) (.const (.int .i64 2)) v12 (.int .i64 2)) fun v13 => .pure (.bin .mul 3 (.const (.int .i64 2)) (.tmp 13) (.int .i64 2) v13) fun v14 => .pure (.fieldA 24 v1 0) fun v15 =>
  .look (.load 3 v15) fun v16 => .pure (.fieldA 24 v1 1) fun v18 => .look (.load 3 v18) fun v19 => .pure (.fieldA 24 v1 0) fun v21 => .look (.load 3 v21) fun v22 => .pure (.fieldA
  24 v1 0) fun v24 => .look (.load 3 v24) fun v25 => .pure (.fieldA 24 v1 0) fun v27 => .look (.load 3 v27) fun v28 => .pure (.fieldA 24 v1 1) fun v29 => .look (.load 3 v29) fun
  v30 => .both (.op [(.load 3 v29, v30), (.load 3 v27, v28), (.load 3 v24, v25), (.load 3 v21, v22), (.load 3 v18, v19), (.load 3 v11, v12), (.load 24 v1, v10)] (.mkSlice 33 v16
  v16) fun v17 => .both (.op [(.load 3 v29, v30), (.load 3 v27, v28), (.load 3 v24, v25), (.load 3 v21, v22), (.load 3 v11, v12), (.load 24 v1, v10)] (.mkSlice 115 v19 v19) fun v20
  => .op [(.load 3 v29, v30), (.load 3 v27, v28), (.load 3 v24, v25), (.load 3 v11, v12), (.load 24 v1, v10)] (.callv (.func (.func 152) #[] #[]) #[v22]) fun v23 => .op [(.load 3
  v29, v30), (.load 3 v27, v28), (.load 3 v11, v12), (.load 24 v1, v10)] (.callv (.func (.func 153) #[] #[]) #[v25]) fun v26 => .op [(.load 3 v11, v12), (.load 24 v1, v10)] (.callv
  (.func (.func 154) #[] #[]) #[v28, v30]) fun v31 => .pure (.build 193 #[(0, v10), (2, v14), (6, v17), (11, v20), (7, v23), (8, v26), (9, v31)]) fun v32 => .op [] (.box 193 v32)
  fun v33 => .leaf none [v33]) (.op [(.load 3 v29, v30), (.load 3 v27, v28), (.load 3 v24, v25), (.load 3 v18, v19), (.load 3 v11, v12), (.load 24 v1, v10)] (.callv (.func (.func
  152) #[] #[]) #[v22]) fun v23 => .both (.op [(.load 3 v29, v30), (.load 3 v27, v28), (.load 3 v24, v25), (.load 3 v11, v12), (.load 24 v1, v10)] (.mkSlice 115 v19 v19) fun v20 =>
  .op [(.load 3 v29, v30), (.load 3 v27, v28), (.load 3 v11, v12), (.load 24 v1, v10)] (.callv (.func (.func 153) #[] #[]) #[v25]) fun v26 => .op [(.load 3 v11, v12), (.load 24 v1,
  v10)] (.callv (.func (.func 154) #[] #[]) #[v28, v30]) fun v31 => .pure (.build 193 #[(0, v10), (2, v14), (6, v17), (11, v20), (7, v23), (8, v26), (9, v31)]) fun v32 => .op []
  (.box 193 v32) fun v33 => .leaf none [v33]) (.op [(.load 3 v29, v30), (.load 3 v27, v28), (.load 3 v18, v19), (.load 3 v11, v12), (.load 24 v1, v10)] (.callv (.func (.func 153)
  #[] #[]) #[v25]) fun v26 => .both (.op [(.load 3 v29, v30), (.load 3 v27, v28), (.load 3 v11, v12), (.load 24 v1, v10)] (.mkSlice 115 v19 v19) fun v20 => .op [(.load 3 v11, v12),
  (.load 24 v1, v10)] (.callv (.func (.func 154) #[] #[]) #[v28, v30]) fun v31 => .pure (.build 193 #[(0, v10), (2, v14), (6, v17), (11, v20), (7, v23), (8, v26), (9, v31)]) fun
  v32 => .op [] (.box 193 v32) fun v33 => .leaf none [v33]) (.op [(.load 3 v18, v19), (.load 3 v11, v12), (.load 24 v1, v10)] (.callv (.func (.func 154) #[] #[]) #[v28, v30]) fun
  v31 => .op [(.load 3 v11, v12), (.load 24 v1, v10)] (.mkSlice 115 v19 v19) fun v20 => .pure (.build 193 #[(0, v10), (2, v14), (6, v17), (11, v20), (7, v23), (8, v26), (9, v31)])
  fun v32 => .op [] (.box 193 v32) fun v33 => .leaf none [v33])))) (.both (.op [(.load 3 v29, v30), (.load 3 v27, v28), (.load 3 v24, v25), (.load 3 v21, v22), (.load 3 v15, v16),
  (.load 3 v11, v12), (.load 24 v1, v10)] (.mkSlice 115 v19 v19) fun v20 => .both (.op [(.load 3 v29, v30), (.load 3 v27, v28), (.load 3 v24, v25), (.load 3 v21, v22), (.load 3
  v11, v12), (.load 24 v1, v10)] (.mkSlice 33 v16 v16) fun v17 => .op [(.load 3 v29, v30), (.load 3 v27, v28), (.load 3 v24, v25), (.load 3 v11, v12), (.load 24 v1, v10)] (.callv
  (.func (.func 152) #[] #[]) #[v22]) fun v23 => .op [(.load 3 v29, v30), (.load 3 v27, v28), (.load 3 v11, v12), (.load 24 v1, v10)] (.callv (.func (.func 153) #[] #[]) #[v25])
  fun v26 => .op [(.load 3 v11, v12), (.load 24 v1, v10)] (.callv (.func (.func 154) #[] #[]) #[v28, v30]) fun v31 => .pure (.build 193 #[(0, v10), (2, v14), (6, v17), (11, v20),
  (7, v23), (8, v26), (9, v31)]) fun v32 => .op [] (.box 193 v32) fun v33 => .leaf none [v33]) (.op [(.load 3 v29, v30), (.load 3 v27, v28), (.load 3 v24, v25), (.load 3 v15, v16),
  (.load 3 v11, v12), (.load 24 v1, v10)] (.callv (.func (.func 152) #[] #[]) #[v22]) fun v23 => .both (.op [(.load 3 v29, v30), (.load 3 v27, v28), (.load 3 v24, v25), (.load 3
  v11, v12), (.load 24 v1, v10)] (.mkSlice 33 v16 v16) fun v17 => .op [(.load 3 v29, v30), (.load 3 v27, v28), (.load 3 v11, v12), (.load 24 v1, v10)] (.callv (.func (.func 153)
  #[] #[]) #[v25]) fun v26 => .op [(.load 3 v11, v12), (.load 24 v1, v10)] (.callv (.func (.func 154) #[] #[]) #[v28, v30]) fun v31 => .pure (.build 193 #[(0, v10), (2, v14), (6,
  v17), (11, v20), (7, v23), (8, v26), (9, v31)]) fun v32 => .op [] (.box 193 v32) fun v33 => .leaf none [v33]) (.op [(.load 3 v29, v30), (.load 3 v27, v28), (.load 3 v15, v16),
  (.load 3 v11, v12), (.load 24 v1, v10)] (.callv (.func (.func 153) #[] #[]) #[v25]) fun v26 => .both (.op [(.load 3 v29, v30), (.load 3 v27, v28), (.load 3 v11, v12), (.load 24
  v1, v10)] (.mkSlice 33 v16 v16) fun v17 => .op [(.load 3 v11, v12), (.load 24 v1, v10)] (.callv (.func (.func 154) #[] #[]) #[v28, v30]) fun v31 => .pure (.build 193 #[(0, v10),
  (2, v14), (6, v17), (11, v20), (7, v23), (8, v26), (9, v31)]) fun v32 => .op [] (.box 193 v32) fun v33 => .leaf none [v33]) (.op [(.load 3 v15, v16), (.load 3 v11, v12), (.load
  24 v1, v10)] (.callv (.func (.func 154) #[] #[]) #[v28, v30]) fun v31 => .op [(.load 3 v11, v12), (.load 24 v1, v10)] (.mkSlice 33 v16 v16) fun v17 => .pure (.build 193 #[(0,
  v10), (2, v14), (6, v17), (11, v20), (7, v23), (8, v26), (9, v31)]) fun v32 => .op [] (.box 193 v32) fun v33 => .leaf none [v33])))) (.op [(.load 3 v29, v30), (.load 3 v27, v28),
  (.load 3 v24, v25), (.load 3 v18, v19), (.load 3 v15, v16), (.load 3 v11, v12), (.load 24 v1, v10)] (.callv (.func (.func 152) #[] #[]) #[v22]) fun v23 => .both (.op [(.load 3
  v29, v30), (.load 3 v27, v28), (.load 3 v24, v25), (.load 3 v18, v19), (.load 3 v11, v12), (.load 24 v1, v10)] (.mkSlice 33 v16 v16) fun v17 => .both (.op [(.load 3 v29, v30),
  (.load 3 v27, v28), (.load 3 v24, v25), (.load 3 v11, v12), (.load 24 v1, v10)] (.mkSlice 115 v19 v19) fun v20 => .op [(.load 3 v29, v30), (.load 3 v27, v28), (.load 3 v11, v12),
  (.load 24 v1, v10)] (.callv (.func (.func 153) #[] #[]) #[v25]) fun v26 => .op [(.load 3 v11, v12), (.load 24 v1, v10)] (.callv (.func (.func 154) #[] #[]) #[v28, v30]) fun v31
  => .pure (.build 193 #[(0, v10), (2, v14), (6, v17), (11, v20), (7, v23), (8, v26), (9, v31)]) fun v32 => .op [] (.box 193 v32) fun v33 => .leaf none [v33]) (.op [(.load 3 v29,
  v30), (.load 3 v27, v28), (.load 3 v18, v19), (.load 3 v11, v12), (.load 24 v1, v10)] (.callv (.func (.func 153) #[] #[]) #[v25]) fun v26 => .both (.op [(.load 3 v29, v30),
  (.load 3 v27, v28), (.load 3 v11, v12), (.load 24 v1, v10)] (.mkSlice 115 v19 v19) fun v20 => .op [(.load 3 v11, v12), (.load 24 v1, v10)] (.callv (.func (.func 154) #[] #[])
  #[v28, v30]) fun v31 => .pure (.build 193 #[(0, v10), (2, v14), (6, v17), (11, v20), (7, v23), (8, v26), (9, v31)]) fun v32 => .op [] (.box 193 v32) fun v33 => .leaf none [v33])
  (.op [(.load 3 v18, v19), (.load 3 v11, v12), (.load 24 v1, v10)] (.callv (.func (.func 154) #[] #[]) #[v28, v30]) fun v31 => .op [(.load 3 v11, v12), (.load 24 v1, v10)]
  (.mkSlice 115 v19 v19) fun v20 => .pure (.build 193 #[(0, v10), (2, v14), (6, v17), (11, v20), (7, v23), (8, v26), (9, v31)]) fun v32 => .op [] (.box 193 v32) fun v33 => .leaf
  none [v33]))) (.both (.op [(.load 3 v29, v30), (.load 3 v27, v28), (.load 3 v24, v25), (.load 3 v15, v16), (.load 3 v11, v12), (.load 24 v1, v10)] (.mkSlice 115 v19 v19) fun v20
  => .both (.op [(.load 3 v29, v30), (.load 3 v27, v28), (.load 3 v24, v25), (.load 3 v11, v12), (.load 24 v1, v10)] (.mkSlice 33 v16 v16) fun v17 => .op [(.load 3 v29, v30),
  (.load 3 v27, v28), (.load 3 v11, v12), (.load 24 v1, v10)] (.callv (.func (.func 153) #[] #[]) #[v25]) fun v26 => .op [(.load 3 v11, v12), (.load 24 v1, v10)] (.callv (.func
  (.func 154) #[] #[]) #[v28, v30]) fun v31 => .pure (.build 193 #[(0, v10), (2, v14), (6, v17), (11, v20), (7, v23), (8, v26), (9, v31)]) fun v32 => .op [] (.box 193 v32) fun v33
  => .leaf none [v33]) (.op [(.load 3 v29, v30), (.load 3 v27, v28), (.load 3 v15, v16), (.load 3 v11, v12), (.load 24 v1, v10)] (.callv (.func (.func 153) #[] #[]) #[v25]) fun v26
  => .both (.op [(.load 3 v29, v30), (.load 3 v27, v28), (.load 3 v11, v12), (.load 24 v1, v10)] (.mkSlice 33 v16 v16) fun v17 => .op [(.load 3 v11, v12), (.load 24 v1, v10)]
  (.callv (.func (.func 154) #[] #[]) #[v28, v30]) fun v31 => .pure (.build 193 #[(0, v10), (2, v14), (6, v17), (11, v20), (7, v23), (8, v26), (9, v31)]) fun v32 => .op [] (.box
  193 v32) fun v33 => .leaf none [v33]) (.op [(.load 3 v15, v16), (.load 3 v11, v12), (.load 24 v1, v10)] (.callv (.func (.func 154) #[] #[]) #[v28, v30]) fun v31 => .op [(.load 3
  v11, v12), (.load 24 v1, v10)] (.mkSlice 33 v16 v16) fun v17 => .pure (.build 193 #[(0, v10), (2, v14), (6, v17), (11, v20), (7, v23), (8, v26), (9, v31)]) fun v32 => .op []
  (.box 193 v32) fun v33 => .leaf none [v33]))) (.op [(.load 3 v29, v30), (.load 3 v27, v28), (.load 3 v18, v19), (.load 3 v15, v16), (.load 3 v11, v12), (.load 24 v1, v10)]
  (.callv (.func (.func 153) #[] #[]) #[v25]) fun v26 => .both (.op [(.load 3 v29, v30), (.load 3 v27, v28), (.load 3 v18, v19), (.load 3 v11, v12), (.load 24 v1, v10)] (.mkSlice
  33 v16 v16) fun v17 => .both (.op [(.load 3 v29, v30), (.load 3 v27, v28), (.load 3 v11, v12), (.load 24 v1, v10)] (.mkSlice 115 v19 v19) fun v20 => .op [(.load 3 v11, v12),
  (.load 24 v1, v10)] (.callv (.func (.func 154) #[] #[]) #[v28, v30]) fun v31 => .pure (.build 193 #[(0, v10), (2, v14), (6, v17), (11, v20), (7, v23), (8, v26), (9, v31)]) fun
  v32 => .op [] (.box 193 v32) fun v33 => .leaf none [v33]) (.op [(.load 3 v18, v19), (.load 3 v11, v12), (.load 24 v1, v10)] (.callv (.func (.func 154) #[] #[]) #[v28, v30]) fun
  v31 => .op [(.load 3 v11, v12), (.load 24 v1, v10)] (.mkSlice 115 v19 v19) fun v20 => .pure (.build 193 #[(0, v10), (2, v14), (6, v17), (11, v20), (7, v23), (8, v26), (9, v31)])
  fun v32 => .op [] (.box 193 v32) fun v33 => .leaf none [v33])) (.both (.op [(.load 3 v29, v30), (.load 3 v27, v28), (.load 3 v15, v16), (.load 3 v11, v12), (.load 24 v1, v10)]
  (.mkSlice 115 v19 v19) fun v20 => .both (.op [(.load 3 v29, v30), (.load 3 v27, v28), (.load 3 v11, v12), (.load 24 v1, v10)] (.mkSlice 33 v16 v16) fun v17 => .op [(.load 3 v11,
  v12), (.load 24 v1, v10)] (.callv (.func (.func 154) #[] #[]) #[v28, v30]) fun v31 => .pure (.build 193 #[(0, v10), (2, v14), (6, v17), (11, v20), (7, v23), (8, v26), (9, v31)])
  fun v32 => .op [] (.box 193 v32) fun v33 => .leaf none [v33]) (.op [(.load 3 v15, v16), (.load 3 v11, v12), (.load 24 v1, v10)] (.callv (.func (.func 154) #[] #[]) #[v28, v30])
  fun v31 => .op [(.load 3 v11, v12), (.load 24 v1, v10)] (.mkSlice 33 v16 v16) fun v17 => .pure (.build 193 #[(0, v10), (2, v14), (6, v17), (11, v20), (7, v23), (8, v26), (9,
  v31)]) fun v32 => .op [] (.box 193 v32) fun v33 => .leaf none [v33])) (.op [(.load 3 v18, v19), (.load 3 v15, v16), (.load 3 v11, v12), (.load 24 v1, v10)] (.callv (.func (.func
  154) #[] #[]) #[v28, v30]) fun v31 => .both (.op [(.load 3 v18, v19), (.load 3 v11, v12), (.load 24 v1, v10)] (.mkSlice 33 v16 v16) fun v17 => .op [(.load 3 v11, v12), (.load 24
  v1, v10)] (.mkSlice 115 v19 v19) fun v20 => .pure (.build 193 #[(0, v10), (2, v14), (6, v17), (11, v20), (7, v23), (8, v26), (9, v31)]) fun v32 => .op [] (.box 193 v32) fun v33
  => .leaf none [v33]) (.op [(.load 3 v15, v16), (.load 3 v11, v12), (.load 24 v1, v10)] (.mkSlice 115 v19 v19) fun v20 => .op [(.load 3 v11, v12), (.load 24 v1, v10)] (.mkSlice 33
  v16 v16) fun v17 => .pure (.build 193 #[(0, v10), (2, v14), (6, v17), (11, v20), (7, v23), (8, v26), (9, v31)]) fun v32 => .op [] (.box 193 v32) fun v33 => .leaf none
  [v33])))))))) fun e s1 => onE e (.pure (.nilChk (sl s1 0)) fun v36 => .pure (.fieldA 193 v36 2) fun v37 => .look (.load 3 v37) fun v38 => .pure (.bin .add 3 (.tmp 38) (.const
  (.int .i64 1)) v38 (.int .i64 1)) fun v39 => .pure (.nilChk (sl s1 0)) fun v40 => .pure (.fieldA 193 v40 3) fun v41 => .op [] (.store 3 v41 v39) fun _ => .pure (.nilChk (sl s1
  0)) fun v44 => .pure (.fieldA 193 v44 3) fun v45 => .look (.load 3 v45) fun v46 => .pure (.fieldA 24 v1 1) fun v47 => .look (.load 3 v47) fun v48 => .pure (.bin .add 3 (.tmp 46)
  (.tmp 48) v46 v48) fun v49 => .pure (.fieldA 24 v1 2) fun v50 => .look (.load 3 v50) fun v51 => .pure (.build 186 #[(0, v49), (1, v51)]) fun v52 => .pure (.nilChk (sl s1 0)) fun
  v53 => .pure (.fieldA 193 v53 4) fun v54 => .op [] (.store 186 v54 v52) fun _ => .pure (.nilChk (sl s1 0)) fun v57 => .pure (.fieldA 193 v57 4) fun v58 => .pure (.fieldA 186 v58
  0) fun v59 => .look (.load 3 v59) fun v60 => .pure (.fieldA 24 v1 2) fun v61 => .look (.load 3 v61) fun v62 => .pure (.bin .add 3 (.tmp 60) (.tmp 62) v60 v62) fun v63 => .op []
  (.callv (.func (.func 155) #[] #[]) #[v63]) fun v64 => .pure (.nilChk (sl s1 0)) fun v65 => .pure (.fieldA 193 v65 1) fun v66 => .op [] (.store 63 v66 v64) fun _ => .pure
  (.fieldA 24 v1 0) fun v67 => .look (.load 3 v67) fun v68 => .loop [(.int .i64 0)] (fun s2 => .pure (.bin .lss 3 (.tmp 69) (.tmp 68) (sl s2 0) v68) fun v70 => .ite v70 (.pure
  (.nilChk (sl s1 0)) fun v74 => .pure (.fieldA 193 v74 5) fun v75 => .look (.load 187 v75) fun v76 => .op [(.load 187 v75, v76)] (.callv (.func (.func 156) #[] #[]) #[]) fun v77
  => .op [(.load 187 v75, v76)] (.buildSlice 187 1 #[(0, v77)]) fun v78 => .op [] (.builtin .append #[187, 187] 187 #[false, false] #[v76, v78]) fun v79 => .pure (.nilChk (sl s1
  0)) fun v80 => .pure (.fieldA 193 v80 5) fun v81 => .op [] (.store 187 v81 v79) fun _ => .pure (.bin .gtr 3 (.tmp 82) (.const (.int .i64 0)) (sl s2 0) (.int .i64 0)) fun v83 =>
  .ite v83 (.pure (.nilChk (sl s1 0)) fun v85 => .pure (.fieldA 193 v85 9) fun v86 => .look (.load 147 v86) fun v87 => .op [] (.callv (.func (.func 157) #[] #[]) #[v87, (sl s2 0)])
  fun _ => .pure (.bin .add 3 (.tmp 69) (.const (.int .i64 1)) (sl s2 0) (.int .i64 1)) fun v90 => .leaf none [v90]) (.pure (.bin .add 3 (.tmp 69) (.const (.int .i64 1)) (sl s2 0)
  (.int .i64 1)) fun v90 => .leaf none [v90])) (.leaf (some 0) [(sl s2 0)])) (fun x _ => (if Nat.beq x 0 then .pure (.fieldA 24 v1 1) fun v91 => .look (.load 3 v91) fun v92 =>
  .loop [(.int .i64 0)] (fun s4 => .pure (.bin .lss 3 (.tmp 93) (.tmp 92) (sl s4 0) v92) fun v94 => .ite v94 (.pure (.nilChk (sl s1 0)) fun v98 => .pure (.fieldA 193 v98 10) fun
  v99 => .look (.load 189 v99) fun v100 => .op [(.load 189 v99, v100)] (.callv (.func (.func 129) #[] #[]) #[]) fun v101 => .op [(.load 189 v99, v100)] (.buildSlice 189 1 #[(0,
  v101)]) fun v102 => .op [] (.builtin .append #[189, 189] 189 #[false, false] #[v100, v102]) fun v103 => .pure (.nilChk (sl s1 0)) fun v104 => .pure (.fieldA 193 v104 10) fun v105
  => .op [] (.store 189 v105 v103) fun _ => .pure (.bin .gtr 3 (.tmp 106) (.const (.int .i64 0)) (sl s4 0) (.int .i64 0)) fun v107 => .ite v107 (.pure (.nilChk (sl s1 0)) fun v109
  => .pure (.fieldA 193 v109 9) fun v110 => .look (.load 147 v110) fun v111 => .op [] (.callv (.func (.func 158) #[] #[]) #[v111, (sl s4 0)]) fun _ => .pure (.bin .add 3 (.tmp 93)
  (.const (.int .i64 1)) (sl s4 0) (.int .i64 1)) fun v114 => .leaf none [v114]) (.pure (.bin .add 3 (.tmp 93) (.const (.int .i64 1)) (sl s4 0) (.int .i64 1)) fun v114 => .leaf
  none [v114])) (.leaf (some 2) [(sl s4 0)])) (fun x _ => (if Nat.beq x 2 then .pure (.nilChk (sl s1 0)) fun v116 => .pure (.fieldA 193 v116 10) fun v117 => .look (.load 189 v117)
  fun v118 => .pure (.nilChk (sl s1 0)) fun v120 => .pure (.fieldA 193 v120 10) fun v121 => .look (.load 189 v121) fun v122 => .pure (.indexA 189 v118 (.int .i64 0)) fun v123 =>
  .pure (.fieldA 98 v123 0) fun v124 => .op [] (.store 92 v124 (.int .i64 1)) fun _ => .pure (.indexA 189 v122 (.int .i64 0)) fun v125 => .pure (.fieldA 98 v125 1) fun v126 => .op
  [] (.store 3 v126 (.int .i64 0)) fun _ => .pure (.nilChk (sl s1 0)) fun v128 => .pure (.fieldA 193 v128 4) fun v129 => .look (.load 186 v129) fun v130 => .pure (.nilChk (sl s1
  0)) fun v132 => .pure (.fieldA 193 v132 1) fun v133 => .look (.load 63 v133) fun v134 => .op [] (.callv (.func (.func 159) #[] #[]) #[v130, v134, (.int .i64 0), (.int .u64 0),
  (.int .u64 1)]) fun _ => .pure (.nilChk (sl s1 0)) fun v137 => .pure (.fieldA 193 v137 12) fun v138 => .pure (.build 43 #[(0, (.int .i64 0)), (2, (.int .i64 (-1))), (3, (.int
  .i64 (-1)))]) fun v139 => .op [] (.callv (.func (.func 160) #[] #[]) #[v138, v139]) fun _ => .pure (.nilChk (sl s1 0)) fun v142 => .pure (.fieldA 193 v142 7) fun v143 => .look
  (.load 188 v143) fun v144 => .op [] (.buildSlice 33 1 #[(0, (.int .i64 0))]) fun v145 => .op [] (.callv (.func (.func 161) #[] #[]) #[v144, v145]) fun _ => .join (.leaf none [(sl
  s1 0), (.int .i64 0)]) fun e s6 => onE e (.ret [(sl s6 0), (sl s6 1)]) fun _ => .bad else .bad)) else .bad))) fun _ => .bad)
theorem tree90 (a0 : Value) : treeF cfg90 Go.Proofs.Tryz.f90 [a0] = t90 a0 := by kernel_rfl
theorem calls90 (a0 : Value) {H : Heap} {Q : Value → Heap → Prop} (h : wpH Go.Proofs.Tryz.prog (fun vs H' => Q (retVal vs) H') (t90 a0) (fun _ _ _ => False) H) : CallsH Go.Proofs.Tryz.prog 90 #[a0] H Q :=
  callsH_of_tree cfg90 mixed Go.Proofs.Tryz.func90 (by rw [tree90]; exact h)

/-- (*hostler/world.World).Global -/
def cfg91 : Cfg := ⟨tyInts, tyMaps, [], [], []⟩
def t91 (a0 : Value) : T := .pure (.nilChk a0) fun v4 => .pure (.fieldA 193 v4 7) fun v5 => .look (.load 188 v5) fun v6 => .op [] (.callv (.func (.func 162) #[] #[]) #[v6]) fun v7
  => .ret [v7]
theorem tree91 (a0 : Value) : treeF cfg91 Go.Proofs.Tryz.f91 [a0] = t91 a0 := by kernel_rfl
theorem calls91 (a0 : Value) {H : Heap} {Q : Value → Heap → Prop} (h : wpH Go.Proofs.Tryz.prog (fun vs H' => Q (retVal vs) H') (t91 a0) (fun _ _ _ => False) H) : CallsH Go.Proofs.Tryz.prog 91 #[a0] H Q :=
  callsH_of_tree cfg91 mixed Go.Proofs.Tryz.func91 (by rw [tree91]; exact h)

/-- (*hostler/world.World).Spinning -/
def cfg92 : Cfg := ⟨tyInts, tyMaps, [], [], []⟩
def t92 (a0 : Value) : T := .pure (.nilChk a0) fun v4 => .pure (.fieldA 193 v4 1) fun v5 => .look (.load 63 v5) fun v6 => .pure (.nilChk a0) fun v9 => .pure (.fieldA 193 v9 2) fun
  v10 => .look (.load 3 v10) fun v11 => .op [(.load 3 v10, v11)] (.callv (.func (.func 114) #[] #[]) #[v6]) fun v7 => .op [] (.callv (.func (.func 131) #[] #[]) #[v7, v11]) fun v12
  => .ret [v12]
theorem tree92 (a0 : Value) : treeF cfg92 Go.Proofs.Tryz.f92 [a0] = t92 a0 := by kernel_rfl
theorem calls92 (a0 : Value) {H : Heap} {Q : Value → Heap → Prop} (h : wpH Go.Proofs.Tryz.prog (fun vs H' => Q (retVal vs) H') (t92 a0) (fun _ _ _ => False) H) : CallsH Go.Proofs.Tryz.prog 92 #[a0] H Q :=
  callsH_of_tree cfg92 mixed Go.Proofs.Tryz.func92 (by rw [tree92]; exact h)

/-- (*hostler/world.World).Ring -/
def cfg96 : Cfg := ⟨tyInts, tyMaps, [], [(1, [15])], []⟩
def t96 (a0 a1 : Value) : T := .join (.pure (.bin .lss 3 (.tmp 5) (.const (.int .i64 0)) a1 (.int .i64 0)) fun v6 => .ite v6 (.leaf none [(.bool true)]) (.pure (.nilChk a0) fun v10
  => .pure (.fieldA 193 v10 0) fun v11 => .pure (.fieldA 24 v11 0) fun v12 => .look (.load 3 v12) fun v13 => .pure (.bin .geq 3 (.tmp 8) (.tmp 13) a1 v13) fun v14 => .leaf none
  [v14])) fun e s1 => onE e (.ite (sl s1 0) (.ret [(.slice none 0 0)]) (.pure (.nilChk a0) fun v17 => .pure (.fieldA 193 v17 5) fun v18 => .look (.load 187 v18) fun v19 => .pure
  (.indexA 187 v19 a1) fun v21 => .look (.load 264 v21) fun v22 => .op [] (.callv (.func (.func 164) #[] #[]) #[v22]) fun v23 => .ret [v23])) fun _ => .bad
theorem tree96 (a0 a1 : Value) : treeF cfg96 Go.Proofs.Tryz.f96 [a0, a1] = t96 a0 a1 := by kernel_rfl
theorem calls96 (a0 a1 : Value) {H : Heap} {Q : Value → Heap → Prop} (h : wpH Go.Proofs.Tryz.prog (fun vs H' => Q (retVal vs) H') (t96 a0 a1) (fun _ _ _ => False) H) : CallsH Go.Proofs.Tryz.prog 96 #[a0, a1] H Q :=
  callsH_of_tree cfg96 mixed Go.Proofs.Tryz.func96 (by rw [tree96]; exact h)

/-- (*hostler/world.World).Turns -/
def cfg97 : Cfg := ⟨tyInts, tyMaps, [], [(1, [15])], []⟩
def t97 (a0 a1 : Value) : T := .join (.pure (.bin .lss 3 (.tmp 5) (.const (.int .i64 0)) a1 (.int .i64 0)) fun v6 => .ite v6 (.leaf none [(.bool true)]) (.pure (.nilChk a0) fun v10
  => .pure (.fieldA 193 v10 0) fun v11 => .pure (.fieldA 24 v11 0) fun v12 => .look (.load 3 v12) fun v13 => .pure (.bin .geq 3 (.tmp 8) (.tmp 13) a1 v13) fun v14 => .leaf none
  [v14])) fun e s1 => onE e (.ite (sl s1 0) (.ret [(.int .i64 0)]) (.pure (.nilChk a0) fun v17 => .pure (.fieldA 193 v17 6) fun v18 => .look (.load 33 v18) fun v19 => .pure
  (.indexA 33 v19 a1) fun v21 => .look (.load 3 v21) fun v22 => .ret [v22])) fun _ => .bad
theorem tree97 (a0 a1 : Value) : treeF cfg97 Go.Proofs.Tryz.f97 [a0, a1] = t97 a0 a1 := by kernel_rfl
theorem calls97 (a0 a1 : Value) {H : Heap} {Q : Value → Heap → Prop} (h : wpH Go.Proofs.Tryz.prog (fun vs H' => Q (retVal vs) H') (t97 a0 a1) (fun _ _ _ => False) H) : CallsH Go.Proofs.Tryz.prog 97 #[a0, a1] H Q :=
  callsH_of_tree cfg97 mixed Go.Proofs.Tryz.func97 (by rw [tree97]; exact h)

/-- (*hostler/world.World).pick -/
def cfg109 : Cfg := ⟨tyInts, tyMaps, [], [(1, [19])], []⟩
def t109 (a0 a1 : Value) : T := .op [] (.box 40 a1) fun v3 => .join (.pure (.fieldA 40 v3 2) fun v7 => .look (.load 3 v7) fun v8 => .pure (.bin .lss 3 (.tmp 8) (.const (.int .i64
  0)) v8 (.int .i64 0)) fun v9 => .ite v9 (.leaf none [(.bool true)]) (.pure (.fieldA 40 v3 2) fun v11 => .look (.load 3 v11) fun v12 => .pure (.nilChk a0) fun v14 => .pure
  (.fieldA 193 v14 0) fun v15 => .pure (.fieldA 24 v15 1) fun v16 => .look (.load 3 v16) fun v17 => .pure (.bin .geq 3 (.tmp 12) (.tmp 17) v12 v17) fun v18 => .leaf none [v18]))
  fun e s1 => onE e (.ite (sl s1 0) (.ret [(.bool false)]) (.pure (.nilChk a0) fun v21 => .pure (.fieldA 193 v21 10) fun v22 => .look (.load 189 v22) fun v23 => .pure (.fieldA 40
  v3 2) fun v24 => .look (.load 3 v24) fun v25 => .pure (.indexA 189 v23 v25) fun v26 => .pure (.nilChk v26) fun v28 => .pure (.fieldA 98 v28 0) fun v29 => .look (.load 92 v29) fun
  v30 => .pure (.bin .eql 92 (.tmp 30) (.const (.int .i64 0)) v30 (.int .i64 0)) fun v32 => .ite v32 (.pure (.fieldA 40 v3 2) fun v34 => .look (.load 3 v34) fun v35 => .look (.load
  40 v3) fun v36 => .op [] (.callv (.func (.func 173) #[] #[]) #[a0, v35, v36]) fun v37 => .ret [v37]) (.pure (.bin .eql 92 (.tmp 30) (.const (.int .i64 16)) v30 (.int .i64 16))
  fun v39 => .ite v39 (.pure (.fieldA 40 v3 2) fun v41 => .look (.load 3 v41) fun v42 => .op [] (.callv (.func (.func 174) #[] #[]) #[a0, v42]) fun v43 => .ret [v43]) (.pure
  (.nilChk v26) fun v45 => .look (.load 98 v45) fun v46 => .pure (.nilChk a0) fun v48 => .pure (.fieldA 193 v48 0) fun v49 => .pure (.fieldA 24 v49 0) fun v50 => .look (.load 3
  v50) fun v51 => .op [] (.callv (.func (.func 175) #[] #[]) #[v46, v51]) fun v52 => .pure (.bin .geq 3 (.tmp 53) (.const (.int .i64 0)) v52 (.int .i64 0)) fun v54 => .ite v54
  (.pure (.fieldA 40 v3 2) fun v56 => .look (.load 3 v56) fun v57 => .op [] (.callv (.func (.func 176) #[] #[]) #[a0, v57, v52]) fun _ => .ret [(.bool true)]) (.pure (.fieldA 40 v3
  2) fun v61 => .look (.load 3 v61) fun v62 => .op [] (.callv (.func (.func 177) #[] #[]) #[a0, v62]) fun _ => .ret [(.bool true)]))))) fun _ => .bad
theorem tree109 (a0 a1 : Value) : treeF cfg109 Go.Proofs.Tryz.f109 [a0, a1] = t109 a0 a1 := by kernel_rfl
theorem calls109 (a0 a1 : Value) {H : Heap} {Q : Value → Heap → Prop} (h : wpH Go.Proofs.Tryz.prog (fun vs H' => Q (retVal vs) H') (t109 a0 a1) (fun _ _ _ => False) H) : CallsH Go.Proofs.Tryz.prog 109 #[a0, a1] H Q :=
  callsH_of_tree cfg109 mixed Go.Proofs.Tryz.func109 (by rw [tree109]; exact h)

/-- (*hostler/world.World).tell -/
def cfg110 : Cfg := ⟨tyInts, tyMaps, [], [(1, [17])], []⟩
def t110 (a0 a1 : Value) : T := .pure (.nilChk a0) fun v8 => .pure (.fieldA 193 v8 9) fun v9 => .look (.load 147 v9) fun v10 => .op [] (.callv (.func (.func 94) #[] #[]) #[v10])
  fun v11 => .pure (.extract v11 0) fun v12 => .pure (.extract v11 1) fun v13 => .join (.ite v13 (.leaf none [a1]) (.leaf none [(.bool false)])) fun e s1 => onE e (.ite (sl s1 0)
  (.pure (.nilChk a0) fun v19 => .pure (.fieldA 193 v19 9) fun v20 => .look (.load 147 v20) fun v21 => .op [] (.callv (.func (.func 178) #[] #[]) #[v21, v12]) fun _ => .pure
  (.nilChk a0) fun v25 => .pure (.fieldA 193 v25 1) fun v26 => .look (.load 63 v26) fun v27 => .pure (.nilChk a0) fun v29 => .pure (.fieldA 193 v29 3) fun v30 => .look (.load 3
  v30) fun v31 => .pure (.bin .add 3 (.tmp 31) (.tmp 32) v31 v12) fun v33 => .op [] (.callv (.func (.func 179) #[] #[]) #[v27, v33]) fun _ => .ret []) (.ret [])) fun _ => .bad
theorem tree110 (a0 a1 : Value) : treeF cfg110 Go.Proofs.Tryz.f110 [a0, a1] = t110 a0 a1 := by kernel_rfl
theorem calls110 (a0 a1 : Value) {H : Heap} {Q : Value → Heap → Prop} (h : wpH Go.Proofs.Tryz.prog (fun vs H' => Q (retVal vs) H') (t110 a0 a1) (fun _ _ _ => False) H) : CallsH Go.Proofs.Tryz.prog 110 #[a0, a1] H Q :=
  callsH_of_tree cfg110 mixed Go.Proofs.Tryz.func110 (by rw [tree110]; exact h)

/-- (hostler/world.Config).right -/
def cfg151 : Cfg := ⟨tyInts, tyMaps, [], [(1, [2])], []⟩
def t151 (a0 : Value) : T := .op [] (.box 24 a0) fun v1 => .join (.pure (.fieldA 24 v1 0) fun v3 => .look (.load 3 v3) fun v4 => .pure (.bin .geq 3 (.tmp 4) (.const (.int .i64 1))
  v4 (.int .i64 1)) fun v5 => .ite v5 (.pure (.fieldA 24 v1 0) fun v7 => .look (.load 3 v7) fun v8 => .pure (.bin .leq 3 (.tmp 8) (.const (.int .i64 64)) v8 (.int .i64 64)) fun v9
  => .ite v9 (.pure (.fieldA 24 v1 1) fun v12 => .look (.load 3 v12) fun v13 => .pure (.fieldA 24 v1 0) fun v14 => .look (.load 3 v14) fun v15 => .pure (.bin .geq 3 (.tmp 13) (.tmp
  15) v13 v15) fun v16 => .ite v16 (.pure (.fieldA 24 v1 1) fun v19 => .look (.load 3 v19) fun v20 => .pure (.bin .leq 3 (.tmp 20) (.const (.int .i64 128)) v20 (.int .i64 128)) fun
  v21 => .ite v21 (.pure (.fieldA 24 v1 2) fun v24 => .look (.load 3 v24) fun v25 => .pure (.bin .geq 3 (.tmp 25) (.const (.int .i64 1)) v25 (.int .i64 1)) fun v26 => .ite v26
  (.pure (.fieldA 24 v1 2) fun v29 => .look (.load 3 v29) fun v30 => .pure (.bin .leq 3 (.tmp 30) (.const (.int .i64 4096)) v30 (.int .i64 4096)) fun v31 => .leaf none [v31])
  (.leaf none [(.bool false)])) (.leaf none [(.bool false)])) (.leaf none [(.bool false)])) (.leaf none [(.bool false)])) (.leaf none [(.bool false)])) fun e s1 => onE e (.ret [(sl
  s1 0)]) fun _ => .bad
theorem tree151 (a0 : Value) : treeF cfg151 Go.Proofs.Tryz.f151 [a0] = t151 a0 := by kernel_rfl
theorem calls151 (a0 : Value) {H : Heap} {Q : Value → Heap → Prop} (h : wpH Go.Proofs.Tryz.prog (fun vs H' => Q (retVal vs) H') (t151 a0) (fun _ _ _ => False) H) : CallsH Go.Proofs.Tryz.prog 151 #[a0] H Q :=
  callsH_of_tree cfg151 mixed Go.Proofs.Tryz.func151 (by rw [tree151]; exact h)

/-- (*hostler/world.World).exec -/
def cfg173 : Cfg := ⟨tyInts, tyMaps, [], [(20, [81])], []⟩
def t173 (a0 a1 a2 : Value) : T := .op [] (.box 40 a2) fun v5 => .pure (.nilChk a0) fun v10 => .pure (.fieldA 193 v10 10) fun v11 => .look (.load 189 v11) fun v12 => .pure (.indexA
  189 v12 a1) fun v14 => .pure (.fieldA 40 v5 1) fun v15 => .look (.load 5 v15) fun v16 => .pure (.bin .eql 5 (.tmp 16) (.const (.int .u8 0)) v16 (.int .u8 0)) fun v18 => .ite v18
  (.ret [(.bool true)]) (.pure (.bin .eql 5 (.tmp 16) (.const (.int .u8 1)) v16 (.int .u8 1)) fun v20 => .ite v20 (.pure (.nilChk v14) fun v22 => .pure (.fieldA 98 v22 2) fun v23
  => .look (.load 3 v23) fun v24 => .op [] (.callv (.func (.func 229) #[] #[]) #[a0, a1, (.int .u64 1), (.int .i64 3)]) fun _ => .pure (.nilChk v14) fun v32 => .pure (.fieldA 98
  v32 4) fun v33 => .op [] (.store 3 v33 v24) fun _ => .pure (.nilChk v14) fun v34 => .pure (.fieldA 98 v34 10) fun v35 => .op [] (.store 92 v35 (.int .i64 1)) fun _ => .pure
  (.nilChk v14) fun v36 => .pure (.fieldA 98 v36 0) fun v37 => .op [] (.store 92 v37 (.int .i64 27)) fun _ => .ret [(.bool true)]) (.pure (.bin .eql 5 (.tmp 16) (.const (.int .u8
  2)) v16 (.int .u8 2)) fun v39 => .ite v39 (.op [] (.callv (.func (.func 229) #[] #[]) #[a0, a1, (.int .u64 3), (.int .i64 4)]) fun _ => .ret [(.bool true)]) (.pure (.bin .eql 5
  (.tmp 16) (.const (.int .u8 3)) v16 (.int .u8 3)) fun v44 => .ite v44 (.op [] (.callv (.func (.func 229) #[] #[]) #[a0, a1, (.int .u64 6), (.int .i64 7)]) fun _ => .ret [(.bool
  true)]) (.pure (.bin .eql 5 (.tmp 16) (.const (.int .u8 4)) v16 (.int .u8 4)) fun v49 => .ite v49 (.pure (.fieldA 40 v5 3) fun v52 => .look (.load 3 v52) fun v53 => .op []
  (.callv (.func (.func 230) #[] #[]) #[a0, a1, v53, (.int .u64 0), (.int .i64 0)]) fun v54 => .ret [v54]) (.pure (.bin .eql 5 (.tmp 16) (.const (.int .u8 5)) v16 (.int .u8 5)) fun
  v56 => .ite v56 (.pure (.fieldA 40 v5 3) fun v59 => .look (.load 3 v59) fun v60 => .op [] (.callv (.func (.func 230) #[] #[]) #[a0, a1, v60, (.int .u64 3), (.int .i64 1)]) fun
  v61 => .ret [v61]) (.pure (.bin .eql 5 (.tmp 16) (.const (.int .u8 6)) v16 (.int .u8 6)) fun v63 => .ite v63 (.pure (.fieldA 40 v5 4) fun v66 => .look (.load 2 v66) fun v67 =>
  .pure (.nilChk v14) fun v68 => .pure (.fieldA 98 v68 12) fun v69 => .op [] (.store 2 v69 v67) fun _ => .pure (.nilChk v14) fun v70 => .pure (.fieldA 98 v70 0) fun v71 => .op []
  (.store 92 v71 (.int .i64 29)) fun _ => .ret [(.bool true)]) (.pure (.bin .eql 5 (.tmp 16) (.const (.int .u8 7)) v16 (.int .u8 7)) fun v73 => .ite v73 (.join (.pure (.fieldA 40
  v5 3) fun v74 => .look (.load 3 v74) fun v75 => .pure (.bin .lss 3 (.tmp 75) (.const (.int .i64 0)) v75 (.int .i64 0)) fun v76 => .ite v76 (.leaf none [(.bool true)]) (.pure
  (.fieldA 40 v5 3) fun v78 => .look (.load 3 v78) fun v79 => .pure (.bin .geq 3 (.tmp 79) (.const (.int .i64 65536)) v79 (.int .i64 65536)) fun v80 => .leaf none [v80])) fun e s1
  => onE e (.ite (sl s1 0) (.ret [(.bool false)]) (.pure (.fieldA 40 v5 3) fun v84 => .look (.load 3 v84) fun v85 => .pure (.nilChk v14) fun v86 => .pure (.fieldA 98 v86 12) fun
  v87 => .op [] (.store 2 v87 v85) fun _ => .pure (.nilChk v14) fun v88 => .pure (.fieldA 98 v88 0) fun v89 => .op [] (.store 92 v89 (.int .i64 30)) fun _ => .ret [(.bool true)]))
  fun _ => .bad) (.ret [(.bool false)]))))))))
theorem tree173 (a0 a1 a2 : Value) : treeF cfg173 Go.Proofs.Tryz.f173 [a0, a1, a2] = t173 a0 a1 a2 := by kernel_rfl
theorem calls173 (a0 a1 a2 : Value) {H : Heap} {Q : Value → Heap → Prop} (h : wpH Go.Proofs.Tryz.prog (fun vs H' => Q (retVal vs) H') (t173 a0 a1 a2) (fun _ _ _ => False) H) : CallsH Go.Proofs.Tryz.prog 173 #[a0, a1, a2] H Q :=
  callsH_of_tree cfg173 mixed Go.Proofs.Tryz.func173 (by rw [tree173]; exact h)

/-- (*hostler/world.World).woken -/
def cfg174 : Cfg := ⟨tyInts, tyMaps, [], [], []⟩
def t174 (a0 a1 : Value) : T := .pure (.nilChk a0) fun v7 => .pure (.fieldA 193 v7 10) fun v8 => .look (.load 189 v8) fun v9 => .pure (.indexA 189 v9 a1) fun v11 => .pure (.nilChk
  a0) fun v13 => .pure (.fieldA 193 v13 3) fun v14 => .look (.load 3 v14) fun v15 => .pure (.bin .add 3 (.tmp 15) (.tmp 16) v15 a1) fun v17 => .pure (.build 361 #[(0, v17), (1,
  (.int .i64 9223372036854775807))]) fun v18 => .pure (.nilChk a0) fun v20 => .pure (.fieldA 193 v20 1) fun v21 => .look (.load 63 v21) fun v22 => .op [] (.callv (.func (.func 231)
  #[] #[]) #[v18, v22, (.int .i64 0)]) fun v23 => .pure (.bin .neq 359 (.tmp 23) (.const (.int .i64 1)) v23 (.int .i64 1)) fun v24 => .ite v24 (.ret [(.bool false)]) (.pure
  (.nilChk v11) fun v26 => .pure (.fieldA 98 v26 3) fun v27 => .look (.load 3 v27) fun v28 => .pure (.bin .lss 3 (.tmp 28) (.const (.int .i64 0)) v28 (.int .i64 0)) fun v29 => .ite
  v29 (.op [] (.callv (.func (.func 232) #[] #[]) #[a0, a1, (.int .i64 13)]) fun _ => .ret [(.bool true)]) (.pure (.nilChk v11) fun v38 => .pure (.fieldA 98 v38 3) fun v39 => .look
  (.load 3 v39) fun v40 => .pure (.nilChk v11) fun v41 => .pure (.fieldA 98 v41 1) fun v42 => .op [] (.store 3 v42 v40) fun _ => .pure (.nilChk v11) fun v43 => .pure (.fieldA 98
  v43 3) fun v44 => .op [] (.store 3 v44 (.int .i64 (-1))) fun _ => .pure (.nilChk v11) fun v45 => .pure (.fieldA 98 v45 7) fun v46 => .op [] (.store 4 v46 (.bool true)) fun _ =>
  .pure (.nilChk v11) fun v47 => .pure (.fieldA 98 v47 0) fun v48 => .op [] (.store 92 v48 (.int .i64 4)) fun _ => .ret [(.bool true)]))
theorem tree174 (a0 a1 : Value) : treeF cfg174 Go.Proofs.Tryz.f174 [a0, a1] = t174 a0 a1 := by kernel_rfl
theorem calls174 (a0 a1 : Value) {H : Heap} {Q : Value → Heap → Prop} (h : wpH Go.Proofs.Tryz.prog (fun vs H' => Q (retVal vs) H') (t174 a0 a1) (fun _ _ _ => False) H) : CallsH Go.Proofs.Tryz.prog 174 #[a0, a1] H Q :=
  callsH_of_tree cfg174 mixed Go.Proofs.Tryz.func174 (by rw [tree174]; exact h)

/-- (*hostler/world.World).locked -/
def cfg176 : Cfg := ⟨tyInts, tyMaps, [(6, [])], [], []⟩
def t176 (a0 a1 a2 : Value) : T := .op [] (.box 57 a0) fun v3 => .op [] (.box 3 a1) fun v4 => .look (.load 57 v3) fun v7 => .pure (.nilChk v7) fun v8 => .pure (.fieldA 193 v8 10)
  fun v9 => .look (.load 189 v9) fun v10 => .look (.load 3 v4) fun v11 => .pure (.indexA 189 v10 v11) fun v12 => .join (.pure (.nilChk v12) fun v14 => .pure (.fieldA 98 v14 8) fun
  v15 => .look (.load 4 v15) fun v16 => .pure (.un .not v16) fun v17 => .ite v17 (.pure (.bin .mul 3 (.const (.int .i64 2)) (.tmp 19) (.int .i64 2) a2) fun v20 => .pure (.bin .mul
  3 (.const (.int .i64 2)) (.tmp 21) (.int .i64 2) a2) fun v22 => .pure (.bin .add 3 (.tmp 22) (.const (.int .i64 1)) v22 (.int .i64 1)) fun v23 => .pure (.build 94 #[(0, v20), (1,
  v23)]) fun v24 => .op [] (.callv (.func (.func 235) #[] #[]) #[v24]) fun v25 => .pure (.nilChk v12) fun v26 => .pure (.fieldA 98 v26 13) fun v27 => .op [] (.store 96 v27 v25) fun
  _ => .pure (.nilChk v12) fun v29 => .pure (.fieldA 98 v29 8) fun v30 => .op [] (.store 4 v30 (.bool true)) fun _ => .look (.load 57 v3) fun v31 => .pure (.nilChk v31) fun v32 =>
  .pure (.fieldA 193 v32 11) fun v33 => .look (.load 115 v33) fun v34 => .look (.load 3 v4) fun v35 => .pure (.indexA 115 v34 v35) fun v36 => .op [] (.store 4 v36 (.bool false))
  fun _ => .leaf none []) (.leaf none [])) fun e _ => onE e (.pure (.nilChk v12) fun v38 => .pure (.fieldA 98 v38 13) fun v39 => .look (.load 57 v3) fun v40 => .pure (.nilChk v40)
  fun v41 => .pure (.fieldA 193 v41 1) fun v42 => .look (.load 63 v42) fun v43 => .pure (.mkF (.func 237) #[] #[v3, v4]) fun v44 => .op [] (.callv (.func (.func 236) #[] #[])
  #[v39, v43, v44]) fun v45 => .ite v45 (.pure (.nilChk v12) fun v47 => .pure (.fieldA 98 v47 8) fun v48 => .op [] (.store 4 v48 (.bool false)) fun _ => .look (.load 57 v3) fun v49
  => .look (.load 3 v4) fun v50 => .op [] (.callv (.func (.func 239) #[] #[]) #[v49, v50]) fun _ => .ret []) (.ret [])) fun _ => .bad
theorem tree176 (a0 a1 a2 : Value) : treeF cfg176 Go.Proofs.Tryz.f176 [a0, a1, a2] = t176 a0 a1 a2 := by kernel_rfl
theorem calls176 (a0 a1 a2 : Value) {H : Heap} {Q : Value → Heap → Prop} (h : wpH Go.Proofs.Tryz.prog (fun vs H' => Q (retVal vs) H') (t176 a0 a1 a2) (fun _ _ _ => False) H) : CallsH Go.Proofs.Tryz.prog 176 #[a0, a1, a2] H Q :=
  callsH_of_tree cfg176 mixed Go.Proofs.Tryz.func176 (by rw [tree176]; exact h)

/-- (*hostler/world.World).bare -/
def cfg177 : Cfg := ⟨tyInts, tyMaps, [], [], []⟩
def t177 (a0 a1 : Value) : T := .pure (.nilChk a0) fun v6 => .pure (.fieldA 193 v6 10) fun v7 => .look (.load 189 v7) fun v8 => .pure (.indexA 189 v8 a1) fun v10 => .pure (.nilChk
  v10) fun v12 => .pure (.fieldA 98 v12 0) fun v13 => .look (.load 92 v13) fun v14 => .pure (.bin .eql 92 (.tmp 14) (.const (.int .i64 1)) v14 (.int .i64 1)) fun v16 => .ite v16
  (.pure (.nilChk a0) fun v18 => .pure (.fieldA 193 v18 6) fun v19 => .look (.load 33 v19) fun v20 => .pure (.nilChk v10) fun v22 => .pure (.fieldA 98 v22 1) fun v23 => .look
  (.load 3 v23) fun v24 => .pure (.indexA 33 v20 v24) fun v25 => .look (.load 3 v25) fun v26 => .pure (.bin .add 3 (.tmp 26) (.const (.int .i64 1)) v26 (.int .i64 1)) fun v27 =>
  .pure (.indexA 33 v20 v24) fun v28 => .op [] (.store 3 v28 v27) fun _ => .pure (.nilChk v10) fun v30 => .pure (.fieldA 98 v30 0) fun v31 => .op [] (.store 92 v31 (.int .i64 3))
  fun _ => .pure (.nilChk a0) fun v33 => .pure (.fieldA 193 v33 6) fun v34 => .look (.load 33 v34) fun v35 => .pure (.nilChk v10) fun v37 => .pure (.fieldA 98 v37 1) fun v38 =>
  .look (.load 3 v38) fun v39 => .pure (.indexA 33 v35 v39) fun v40 => .look (.load 3 v40) fun v41 => .pure (.bin .rem 3 (.tmp 41) (.const (.int .i64 61)) v41 (.int .i64 61)) fun
  v42 => .pure (.bin .eql 3 (.tmp 42) (.const (.int .i64 0)) v42 (.int .i64 0)) fun v43 => .ite v43 (.op [] (.callv (.func (.func 232) #[] #[]) #[a0, a1, (.int .i64 2)]) fun _ =>
  .ret []) (.ret [])) (.pure (.bin .eql 92 (.tmp 14) (.const (.int .i64 5)) v14 (.int .i64 5)) fun v48 => .ite v48 (.pure (.nilChk a0) fun v50 => .pure (.fieldA 193 v50 1) fun v51
  => .look (.load 63 v51) fun v52 => .pure (.nilChk a0) fun v54 => .pure (.fieldA 193 v54 2) fun v55 => .look (.load 3 v55) fun v56 => .op [] (.callv (.func (.func 240) #[] #[])
  #[v52, v56, (.int .i64 1)]) fun _ => .pure (.nilChk v10) fun v59 => .pure (.fieldA 98 v59 7) fun v60 => .op [] (.store 4 v60 (.bool true)) fun _ => .op [] (.callv (.func (.func
  241) #[] #[]) #[a0, a1, (.int .i64 1)]) fun _ => .ret []) (.pure (.bin .eql 92 (.tmp 14) (.const (.int .i64 12)) v14 (.int .i64 12)) fun v65 => .ite v65 (.pure (.nilChk a0) fun
  v67 => .pure (.fieldA 193 v67 1) fun v68 => .look (.load 63 v68) fun v69 => .pure (.nilChk a0) fun v71 => .pure (.fieldA 193 v71 2) fun v72 => .look (.load 3 v72) fun v73 => .op
  [] (.callv (.func (.func 240) #[] #[]) #[v69, v73, (.int .i64 1)]) fun _ => .pure (.nilChk v10) fun v77 => .pure (.fieldA 98 v77 7) fun v78 => .op [] (.store 4 v78 (.bool true))
  fun _ => .pure (.nilChk v10) fun v79 => .pure (.fieldA 98 v79 0) fun v80 => .op [] (.store 92 v80 (.int .i64 4)) fun _ => .ret []) (.pure (.bin .eql 92 (.tmp 14) (.const (.int
  .i64 8)) v14 (.int .i64 8)) fun v82 => .ite v82 (.pure (.nilChk a0) fun v84 => .pure (.fieldA 193 v84 1) fun v85 => .look (.load 63 v85) fun v86 => .pure (.nilChk a0) fun v88 =>
  .pure (.fieldA 193 v88 2) fun v89 => .look (.load 3 v89) fun v90 => .op [] (.callv (.func (.func 240) #[] #[]) #[v86, v90, (.int .i64 (-1))]) fun _ => .pure (.nilChk v10) fun v95
  => .pure (.fieldA 98 v95 7) fun v96 => .op [] (.store 4 v96 (.bool false)) fun _ => .pure (.nilChk v10) fun v97 => .pure (.fieldA 98 v97 6) fun v98 => .op [] (.store 3 v98 (.int
  .i64 0)) fun _ => .pure (.nilChk v10) fun v99 => .pure (.fieldA 98 v99 0) fun v100 => .op [] (.store 92 v100 (.int .i64 9)) fun _ => .ret []) (.pure (.bin .eql 92 (.tmp 14)
  (.const (.int .i64 19)) v14 (.int .i64 19)) fun v102 => .ite v102 (.pure (.nilChk a0) fun v104 => .pure (.fieldA 193 v104 1) fun v105 => .look (.load 63 v105) fun v106 => .pure
  (.nilChk a0) fun v108 => .pure (.fieldA 193 v108 2) fun v109 => .look (.load 3 v109) fun v110 => .op [] (.callv (.func (.func 240) #[] #[]) #[v106, v110, (.int .i64 (-1))]) fun _
  => .pure (.nilChk v10) fun v114 => .pure (.fieldA 98 v114 7) fun v115 => .op [] (.store 4 v115 (.bool false)) fun _ => .pure (.nilChk v10) fun v116 => .pure (.fieldA 98 v116 0)
  fun v117 => .op [] (.store 92 v117 (.int .i64 21)) fun _ => .ret []) (.pure (.bin .eql 92 (.tmp 14) (.const (.int .i64 20)) v14 (.int .i64 20)) fun v119 => .ite v119 (.pure
  (.nilChk a0) fun v121 => .pure (.fieldA 193 v121 4) fun v122 => .look (.load 186 v122) fun v123 => .pure (.nilChk a0) fun v125 => .pure (.fieldA 193 v125 1) fun v126 => .look
  (.load 63 v126) fun v127 => .pure (.nilChk v10) fun v129 => .pure (.fieldA 98 v129 4) fun v130 => .look (.load 3 v130) fun v131 => .op [] (.callv (.func (.func 159) #[] #[])
  #[v123, v127, v131, (.int .u64 1), (.int .u64 2)]) fun _ => .pure (.nilChk v10) fun v136 => .pure (.fieldA 98 v136 4) fun v137 => .look (.load 3 v137) fun v138 => .op [] (.callv
  (.func (.func 242) #[] #[]) #[a0, a1, (.int .i64 2), v138, (.int .i64 0)]) fun _ => .pure (.nilChk v10) fun v144 => .pure (.fieldA 98 v144 4) fun v145 => .look (.load 3 v145) fun
  v146 => .pure (.nilChk v10) fun v147 => .pure (.fieldA 98 v147 2) fun v148 => .op [] (.store 3 v148 v146) fun _ => .pure (.nilChk v10) fun v149 => .pure (.fieldA 98 v149 4) fun
  v150 => .op [] (.store 3 v150 (.int .i64 (-1))) fun _ => .pure (.nilChk v10) fun v151 => .pure (.fieldA 98 v151 0) fun v152 => .op [] (.store 92 v152 (.int .i64 0)) fun _ => .ret
  []) (.pure (.bin .eql 92 (.tmp 14) (.const (.int .i64 21)) v14 (.int .i64 21)) fun v154 => .ite v154 (.pure (.nilChk a0) fun v157 => .pure (.fieldA 193 v157 1) fun v158 => .look
  (.load 63 v158) fun v159 => .pure (.nilChk a0) fun v161 => .pure (.fieldA 193 v161 2) fun v162 => .look (.load 3 v162) fun v163 => .pure (.nilChk v10) fun v167 => .pure (.fieldA
  98 v167 10) fun v168 => .look (.load 92 v168) fun v169 => .op [(.load 92 v168, v169)] (.callv (.func (.func 131) #[] #[]) #[v159, v163]) fun v164 => .pure (.bin .eql 81 (.tmp
  164) (.const (.int .u64 0)) v164 (.int .u64 0)) fun v165 => .op [] (.callv (.func (.func 243) #[] #[]) #[v165, (.int .i64 22), v169]) fun v170 => .pure (.nilChk v10) fun v171 =>
  .pure (.fieldA 98 v171 0) fun v172 => .op [] (.store 92 v172 v170) fun _ => .ret []) (.pure (.bin .eql 92 (.tmp 14) (.const (.int .i64 22)) v14 (.int .i64 22)) fun v174 => .ite
  v174 (.pure (.nilChk a0) fun v177 => .pure (.fieldA 193 v177 1) fun v178 => .look (.load 63 v178) fun v179 => .pure (.nilChk a0) fun v181 => .pure (.fieldA 193 v181 2) fun v182
  => .look (.load 3 v182) fun v183 => .pure (.nilChk v10) fun v186 => .pure (.fieldA 98 v186 10) fun v187 => .look (.load 92 v187) fun v188 => .op [(.load 92 v187, v188)] (.callv
  (.func (.func 217) #[] #[]) #[v179, v183, (.int .u64 0), (.int .u64 1)]) fun v184 => .op [] (.callv (.func (.func 243) #[] #[]) #[v184, (.int .i64 23), v188]) fun v189 => .pure
  (.nilChk v10) fun v190 => .pure (.fieldA 98 v190 0) fun v191 => .op [] (.store 92 v191 v189) fun _ => .ret []) (.pure (.bin .eql 92 (.tmp 14) (.const (.int .i64 24)) v14 (.int
  .i64 24)) fun v193 => .ite v193 (.pure (.nilChk a0) fun v195 => .pure (.fieldA 193 v195 1) fun v196 => .look (.load 63 v196) fun v197 => .pure (.nilChk a0) fun v199 => .pure
  (.fieldA 193 v199 3) fun v200 => .look (.load 3 v200) fun v201 => .pure (.nilChk v10) fun v203 => .pure (.fieldA 98 v203 5) fun v204 => .look (.load 3 v204) fun v205 => .pure
  (.bin .add 3 (.tmp 201) (.tmp 205) v201 v205) fun v206 => .op [] (.callv (.func (.func 179) #[] #[]) #[v197, v206]) fun _ => .pure (.nilChk v10) fun v211 => .pure (.fieldA 98
  v211 10) fun v212 => .look (.load 92 v212) fun v213 => .pure (.nilChk v10) fun v214 => .pure (.fieldA 98 v214 5) fun v215 => .op [] (.store 3 v215 (.int .i64 (-1))) fun _ =>
  .pure (.nilChk v10) fun v216 => .pure (.fieldA 98 v216 0) fun v217 => .op [] (.store 92 v217 v213) fun _ => .ret []) (.pure (.bin .eql 92 (.tmp 14) (.const (.int .i64 26)) v14
  (.int .i64 26)) fun v219 => .ite v219 (.pure (.nilChk a0) fun v221 => .pure (.fieldA 193 v221 4) fun v222 => .look (.load 186 v222) fun v223 => .pure (.nilChk a0) fun v225 =>
  .pure (.fieldA 193 v225 1) fun v226 => .look (.load 63 v226) fun v227 => .pure (.nilChk v10) fun v229 => .pure (.fieldA 98 v229 4) fun v230 => .look (.load 3 v230) fun v231 =>
  .op [] (.callv (.func (.func 244) #[] #[]) #[v223, v227, v231, (.int .u64 1)]) fun _ => .pure (.nilChk v10) fun v236 => .pure (.fieldA 98 v236 4) fun v237 => .look (.load 3 v237)
  fun v238 => .op [] (.callv (.func (.func 242) #[] #[]) #[a0, a1, (.int .i64 1), v238, (.int .i64 0)]) fun _ => .pure (.nilChk v10) fun v242 => .pure (.fieldA 98 v242 10) fun v243
  => .op [] (.store 92 v243 (.int .i64 25)) fun _ => .pure (.nilChk v10) fun v244 => .pure (.fieldA 98 v244 0) fun v245 => .op [] (.store 92 v245 (.int .i64 27)) fun _ => .ret [])
  (.ret []))))))))))
theorem tree177 (a0 a1 : Value) : treeF cfg177 Go.Proofs.Tryz.f177 [a0, a1] = t177 a0 a1 := by kernel_rfl
theorem calls177 (a0 a1 : Value) {H : Heap} {Q : Value → Heap → Prop} (h : wpH Go.Proofs.Tryz.prog (fun vs H' => Q (retVal vs) H') (t177 a0 a1) (fun _ _ _ => False) H) : CallsH Go.Proofs.Tryz.prog 177 #[a0, a1] H Q :=
  callsH_of_tree cfg177 mixed Go.Proofs.Tryz.func177 (by rw [tree177]; exact h)

/-- (*hostler/world.World).leave -/
def cfg229 : Cfg := ⟨tyInts, tyMaps, [], [], []⟩
def t229 (a0 a1 a2 a3 : Value) : T := .pure (.nilChk a0) fun v10 => .pure (.fieldA 193 v10 10) fun v11 => .look (.load 189 v11) fun v12 => .pure (.indexA 189 v12 a1) fun v14 =>
  .pure (.nilChk a0) fun v16 => .pure (.fieldA 193 v16 4) fun v17 => .look (.load 186 v17) fun v18 => .pure (.nilChk a0) fun v20 => .pure (.fieldA 193 v20 1) fun v21 => .look
  (.load 63 v21) fun v22 => .pure (.nilChk v14) fun v24 => .pure (.fieldA 98 v24 2) fun v25 => .look (.load 3 v25) fun v26 => .op [] (.callv (.func (.func 159) #[] #[]) #[v18, v22,
  v26, (.int .u64 2), a2]) fun _ => .pure (.nilChk v14) fun v33 => .pure (.fieldA 98 v33 2) fun v34 => .look (.load 3 v34) fun v35 => .op [] (.callv (.func (.func 242) #[] #[])
  #[a0, a1, a3, v35, (.int .i64 0)]) fun _ => .pure (.nilChk v14) fun v40 => .pure (.fieldA 98 v40 4) fun v41 => .op [] (.store 3 v41 (.int .i64 (-1))) fun _ => .pure (.nilChk v14)
  fun v42 => .pure (.fieldA 98 v42 2) fun v43 => .op [] (.store 3 v43 (.int .i64 (-1))) fun _ => .pure (.nilChk v14) fun v44 => .pure (.fieldA 98 v44 0) fun v45 => .op [] (.store
  92 v45 (.int .i64 1)) fun _ => .ret []
theorem tree229 (a0 a1 a2 a3 : Value) : treeF cfg229 Go.Proofs.Tryz.f229 [a0, a1, a2, a3] = t229 a0 a1 a2 a3 := by kernel_rfl
theorem calls229 (a0 a1 a2 a3 : Value) {H : Heap} {Q : Value → Heap → Prop} (h : wpH Go.Proofs.Tryz.prog (fun vs H' => Q (retVal vs) H') (t229 a0 a1 a2 a3) (fun _ _ _ => False) H) : CallsH Go.Proofs.Tryz.prog 229 #[a0, a1, a2, a3] H Q :=
  callsH_of_tree cfg229 mixed Go.Proofs.Tryz.func229 (by rw [tree229]; exact h)

/-- (*hostler/world.World).rouse -/
def cfg230 : Cfg := ⟨tyInts, tyMaps, [], [], []⟩
def t230 (a0 a1 a2 a3 a4 : Value) : T := .pure (.nilChk a0) fun v13 => .pure (.fieldA 193 v13 10) fun v14 => .look (.load 189 v14) fun v15 => .pure (.indexA 189 v15 a1) fun v17 =>
  .pure (.nilChk a0) fun v19 => .pure (.fieldA 193 v19 4) fun v20 => .look (.load 186 v20) fun v21 => .pure (.nilChk a0) fun v23 => .pure (.fieldA 193 v23 1) fun v24 => .look
  (.load 63 v24) fun v25 => .op [] (.callv (.func (.func 159) #[] #[]) #[v21, v25, a2, a3, (.int .u64 1)]) fun v28 => .pure (.un .not v28) fun v29 => .ite v29 (.ret [(.bool
  false)]) (.op [] (.callv (.func (.func 242) #[] #[]) #[a0, a1, a4, a2, (.int .i64 0)]) fun _ => .pure (.nilChk v17) fun v38 => .pure (.fieldA 98 v38 4) fun v39 => .op [] (.store
  3 v39 a2) fun _ => .pure (.nilChk v17) fun v40 => .pure (.fieldA 98 v40 0) fun v41 => .op [] (.store 92 v41 (.int .i64 28)) fun _ => .ret [(.bool true)])
theorem tree230 (a0 a1 a2 a3 a4 : Value) : treeF cfg230 Go.Proofs.Tryz.f230 [a0, a1, a2, a3, a4] = t230 a0 a1 a2 a3 a4 := by kernel_rfl
theorem calls230 (a0 a1 a2 a3 a4 : Value) {H : Heap} {Q : Value → Heap → Prop} (h : wpH Go.Proofs.Tryz.prog (fun vs H' => Q (retVal vs) H') (t230 a0 a1 a2 a3 a4) (fun _ _ _ => False) H) : CallsH Go.Proofs.Tryz.prog 230 #[a0, a1, a2, a3, a4] H Q :=
  callsH_of_tree cfg230 mixed Go.Proofs.Tryz.func230 (by rw [tree230]; exact h)

/-- (*hostler/world.World).deliver -/
def cfg232 : Cfg := ⟨tyInts, tyMaps, [], [], []⟩
def t232 (a0 a1 a2 : Value) : T := .pure (.nilChk a0) fun v7 => .pure (.fieldA 193 v7 10) fun v8 => .look (.load 189 v8) fun v9 => .pure (.nilChk a0) fun v12 => .pure (.fieldA 193
  v12 10) fun v13 => .look (.load 189 v13) fun v14 => .pure (.indexA 189 v9 a1) fun v17 => .pure (.fieldA 98 v17 11) fun v18 => .op [] (.store 92 v18 a2) fun _ => .pure (.indexA
  189 v14 a1) fun v19 => .pure (.fieldA 98 v19 0) fun v20 => .op [] (.store 92 v20 (.int .i64 25)) fun _ => .ret []
theorem tree232 (a0 a1 a2 : Value) : treeF cfg232 Go.Proofs.Tryz.f232 [a0, a1, a2] = t232 a0 a1 a2 := by kernel_rfl
theorem calls232 (a0 a1 a2 : Value) {H : Heap} {Q : Value → Heap → Prop} (h : wpH Go.Proofs.Tryz.prog (fun vs H' => Q (retVal vs) H') (t232 a0 a1 a2) (fun _ _ _ => False) H) : CallsH Go.Proofs.Tryz.prog 232 #[a0, a1, a2] H Q :=
  callsH_of_tree cfg232 mixed Go.Proofs.Tryz.func232 (by rw [tree232]; exact h)

/-- (*hostler/world.World).locked$1 -/
def cfg237 : Cfg := ⟨tyInts, tyMaps, [], [], []⟩
def t237 (a0 a1 a2 : Value) : T := .look (.load 57 a1) fun v5 => .look (.load 3 a2) fun v6 => .op [] (.callv (.func (.func 238) #[] #[]) #[v5, v6, a0]) fun v8 => .ret [v8]
theorem tree237 (a0 a1 a2 : Value) : treeF cfg237 Go.Proofs.Tryz.f237 [a0, a1, a2] = t237 a0 a1 a2 := by kernel_rfl
theorem calls237 (a0 a1 a2 : Value) {H : Heap} {Q : Value → Heap → Prop} (h : wpH Go.Proofs.Tryz.prog (fun vs H' => Q (retVal vs) H') (t237 a0 a1 a2) (fun _ _ _ => False) H) : CallsH Go.Proofs.Tryz.prog 237 #[a0, a1, a2] H Q :=
  callsH_of_tree cfg237 mixed Go.Proofs.Tryz.func237 (by rw [tree237]; exact h)

/-- (*hostler/world.World).do -/
def cfg238 : Cfg := ⟨tyInts, tyMaps, [(53, [336])], [], []⟩
def t238 (a0 a1 a2 : Value) : T := .pure (.nilChk a0) fun v19 => .pure (.fieldA 193 v19 10) fun v20 => .look (.load 189 v20) fun v21 => .pure (.indexA 189 v21 a1) fun v23 => .pure
  (.nilChk v23) fun v25 => .pure (.fieldA 98 v25 0) fun v26 => .look (.load 92 v26) fun v27 => .pure (.bin .eql 92 (.tmp 27) (.const (.int .i64 2)) v27 (.int .i64 2)) fun v29 =>
  .ite v29 (.pure (.nilChk a0) fun v32 => .pure (.fieldA 193 v32 7) fun v33 => .look (.load 188 v33) fun v34 => .op [] (.callv (.func (.func 272) #[] #[]) #[v34]) fun v35 => .pure
  (.extract v35 0) fun v36 => .pure (.extract v35 1) fun v37 => .op [] (.callv (.func (.func 273) #[] #[]) #[a0, a1, v36, v37]) fun _ => .ret [(.bool false)]) (.pure (.bin .eql 92
  (.tmp 27) (.const (.int .i64 3)) v27 (.int .i64 3)) fun v44 => .ite v44 (.pure (.nilChk a0) fun v47 => .pure (.fieldA 193 v47 5) fun v48 => .look (.load 187 v48) fun v49 => .pure
  (.nilChk v23) fun v51 => .pure (.fieldA 98 v51 1) fun v52 => .look (.load 3 v52) fun v53 => .pure (.indexA 187 v49 v53) fun v54 => .look (.load 264 v54) fun v55 => .op [] (.callv
  (.func (.func 274) #[] #[]) #[v55]) fun v56 => .pure (.extract v56 0) fun v57 => .pure (.extract v56 1) fun v58 => .op [] (.callv (.func (.func 273) #[] #[]) #[a0, a1, v57, v58])
  fun _ => .ret [(.bool false)]) (.pure (.bin .eql 92 (.tmp 27) (.const (.int .i64 4)) v27 (.int .i64 4)) fun v65 => .ite v65 (.pure (.nilChk a0) fun v69 => .pure (.fieldA 193 v69
  7) fun v70 => .look (.load 188 v70) fun v71 => .op [] (.callv (.func (.func 276) #[] #[]) #[v71]) fun v72 => .op [] (.callv (.func (.func 275) #[] #[]) #[a0, a1, v72]) fun _ =>
  .ret [(.bool false)]) (.pure (.bin .eql 92 (.tmp 27) (.const (.int .i64 6)) v27 (.int .i64 6)) fun v75 => .ite v75 (.pure (.nilChk a0) fun v79 => .pure (.fieldA 193 v79 5) fun
  v80 => .look (.load 187 v80) fun v81 => .pure (.nilChk v23) fun v83 => .pure (.fieldA 98 v83 1) fun v84 => .look (.load 3 v84) fun v85 => .pure (.nilChk v23) fun v87 => .pure
  (.fieldA 98 v87 6) fun v88 => .look (.load 3 v88) fun v89 => .pure (.bin .add 3 (.tmp 85) (.tmp 89) v85 v89) fun v90 => .pure (.nilChk a0) fun v92 => .pure (.fieldA 193 v92 0)
  fun v93 => .pure (.fieldA 24 v93 0) fun v94 => .look (.load 3 v94) fun v95 => .pure (.bin .rem 3 (.tmp 90) (.tmp 95) v90 v95) fun v96 => .pure (.indexA 187 v81 v96) fun v97 =>
  .look (.load 264 v97) fun v98 => .op [] (.callv (.func (.func 277) #[] #[]) #[v98]) fun v99 => .op [] (.callv (.func (.func 275) #[] #[]) #[a0, a1, v99]) fun _ => .ret [(.bool
  false)]) (.pure (.bin .eql 92 (.tmp 27) (.const (.int .i64 7)) v27 (.int .i64 7)) fun v102 => .ite v102 (.pure (.nilChk a0) fun v106 => .pure (.fieldA 193 v106 7) fun v107 =>
  .look (.load 188 v107) fun v108 => .op [] (.callv (.func (.func 276) #[] #[]) #[v108]) fun v109 => .op [] (.callv (.func (.func 275) #[] #[]) #[a0, a1, v109]) fun _ => .pure
  (.nilChk a0) fun v112 => .pure (.fieldA 193 v112 11) fun v113 => .look (.load 115 v113) fun v114 => .pure (.indexA 115 v114 a1) fun v116 => .look (.load 4 v116) fun v117 => .pure
  (.un .not v117) fun v118 => .ite v118 (.pure (.nilChk a0) fun v120 => .pure (.fieldA 193 v120 9) fun v121 => .look (.load 147 v121) fun v122 => .pure (.nilChk v23) fun v124 =>
  .pure (.fieldA 98 v124 1) fun v125 => .look (.load 3 v125) fun v126 => .op [] (.callv (.func (.func 157) #[] #[]) #[v122, v126]) fun _ => .pure (.nilChk v23) fun v129 => .pure
  (.fieldA 98 v129 1) fun v130 => .op [] (.store 3 v130 (.int .i64 (-1))) fun _ => .ret [(.bool false)]) (.ret [(.bool false)])) (.pure (.bin .eql 92 (.tmp 27) (.const (.int .i64
  9)) v27 (.int .i64 9)) fun v132 => .ite v132 (.pure (.nilChk a0) fun v134 => .pure (.fieldA 193 v134 11) fun v135 => .look (.load 115 v135) fun v136 => .pure (.nilChk a0) fun
  v139 => .pure (.fieldA 193 v139 5) fun v140 => .look (.load 187 v140) fun v141 => .pure (.nilChk v23) fun v143 => .pure (.fieldA 98 v143 6) fun v144 => .look (.load 3 v144) fun
  v145 => .pure (.indexA 187 v141 v145) fun v146 => .look (.load 264 v146) fun v147 => .op [(.load 115 v135, v136)] (.callv (.func (.func 278) #[] #[]) #[v147]) fun v148 => .pure
  (.bin .gtr 3 (.tmp 148) (.const (.int .i64 0)) v148 (.int .i64 0)) fun v149 => .pure (.indexA 115 v136 a1) fun v150 => .op [] (.store 4 v150 v149) fun _ => .ret [(.bool false)])
  (.pure (.bin .eql 92 (.tmp 27) (.const (.int .i64 10)) v27 (.int .i64 10)) fun v152 => .ite v152 (.pure (.nilChk a0) fun v154 => .pure (.fieldA 193 v154 11) fun v155 => .look
  (.load 115 v155) fun v156 => .pure (.nilChk a0) fun v159 => .pure (.fieldA 193 v159 7) fun v160 => .look (.load 188 v160) fun v161 => .op [(.load 115 v155, v156)] (.callv (.func
  (.func 279) #[] #[]) #[v161]) fun v162 => .pure (.bin .gtr 3 (.tmp 162) (.const (.int .i64 0)) v162 (.int .i64 0)) fun v163 => .pure (.indexA 115 v156 a1) fun v164 => .op []
  (.store 4 v164 v163) fun _ => .ret [(.bool false)]) (.pure (.bin .eql 92 (.tmp 27) (.const (.int .i64 11)) v27 (.int .i64 11)) fun v166 => .ite v166 (.pure (.nilChk a0) fun v169
  => .pure (.fieldA 193 v169 9) fun v170 => .look (.load 147 v170) fun v171 => .op [] (.callv (.func (.func 280) #[] #[]) #[v171]) fun v172 => .pure (.extract v172 0) fun v173 =>
  .pure (.extract v172 1) fun v174 => .op [] (.callv (.func (.func 281) #[] #[]) #[a0, a1, v173, v174]) fun _ => .ret [(.bool false)]) (.pure (.bin .eql 92 (.tmp 27) (.const (.int
  .i64 13)) v27 (.int .i64 13)) fun v181 => .ite v181 (.pure (.nilChk a0) fun v184 => .pure (.fieldA 193 v184 9) fun v185 => .look (.load 147 v185) fun v186 => .op [] (.callv
  (.func (.func 282) #[] #[]) #[v186]) fun v187 => .pure (.extract v187 0) fun v188 => .pure (.extract v187 1) fun v189 => .op [] (.callv (.func (.func 281) #[] #[]) #[a0, a1,
  v188, v189]) fun _ => .pure (.nilChk v23) fun v197 => .pure (.fieldA 98 v197 7) fun v198 => .op [] (.store 4 v198 v189) fun _ => .pure (.un .not v189) fun v200 => .ite v200
  (.pure (.nilChk a0) fun v203 => .pure (.fieldA 193 v203 11) fun v204 => .look (.load 115 v204) fun v205 => .pure (.nilChk a0) fun v208 => .pure (.fieldA 193 v208 9) fun v209 =>
  .look (.load 147 v209) fun v210 => .op [(.load 115 v204, v205)] (.callv (.func (.func 158) #[] #[]) #[v210, a1]) fun v212 => .pure (.extract v212 0) fun v213 => .pure (.extract
  v212 1) fun _ => .pure (.indexA 115 v205 a1) fun v215 => .op [] (.store 4 v215 v213) fun _ => .ret [(.bool false)]) (.ret [(.bool false)])) (.pure (.bin .eql 92 (.tmp 27) (.const
  (.int .i64 15)) v27 (.int .i64 15)) fun v217 => .ite v217 (.pure (.nilChk a0) fun v219 => .pure (.fieldA 193 v219 11) fun v220 => .look (.load 115 v220) fun v221 => .pure
  (.nilChk a0) fun v224 => .pure (.fieldA 193 v224 9) fun v225 => .look (.load 147 v225) fun v226 => .op [(.load 115 v220, v221)] (.callv (.func (.func 178) #[] #[]) #[v226, a1])
  fun v228 => .pure (.indexA 115 v221 a1) fun v229 => .op [] (.store 4 v229 v228) fun _ => .ret [(.bool false)]) (.pure (.bin .eql 92 (.tmp 27) (.const (.int .i64 18)) v27 (.int
  .i64 18)) fun v231 => .ite v231 (.pure (.nilChk a0) fun v233 => .pure (.fieldA 193 v233 7) fun v234 => .look (.load 188 v234) fun v235 => .pure (.nilChk v23) fun v237 => .pure
  (.fieldA 98 v237 9) fun v238 => .look (.load 33 v238) fun v239 => .op [] (.callv (.func (.func 161) #[] #[]) #[v235, v239]) fun _ => .pure (.nilChk v23) fun v242 => .pure
  (.fieldA 98 v242 9) fun v243 => .op [] (.store 33 v243 (.slice none 0 0)) fun _ => .ret [(.bool false)]) (.pure (.bin .eql 92 (.tmp 27) (.const (.int .i64 27)) v27 (.int .i64
  27)) fun v245 => .ite v245 (.pure (.nilChk a0) fun v247 => .pure (.fieldA 193 v247 7) fun v248 => .look (.load 188 v248) fun v249 => .pure (.nilChk v23) fun v251 => .pure
  (.fieldA 98 v251 4) fun v252 => .look (.load 3 v252) fun v253 => .op [(.load 188 v248, v249)] (.buildSlice 33 1 #[(0, v253)]) fun v254 => .op [] (.callv (.func (.func 161) #[]
  #[]) #[v249, v254]) fun _ => .pure (.nilChk v23) fun v257 => .pure (.fieldA 98 v257 4) fun v258 => .op [] (.store 3 v258 (.int .i64 (-1))) fun _ => .ret [(.bool false)]) (.pure
  (.bin .eql 92 (.tmp 27) (.const (.int .i64 17)) v27 (.int .i64 17)) fun v260 => .ite v260 (.pure (.nilChk a0) fun v263 => .pure (.fieldA 193 v263 5) fun v264 => .look (.load 187
  v264) fun v265 => .pure (.nilChk v23) fun v267 => .pure (.fieldA 98 v267 1) fun v268 => .look (.load 3 v268) fun v269 => .pure (.indexA 187 v265 v269) fun v270 => .look (.load
  264 v270) fun v271 => .pure (.nilChk v23) fun v273 => .pure (.fieldA 98 v273 9) fun v274 => .look (.load 33 v274) fun v275 => .op [] (.callv (.func (.func 283) #[] #[]) #[v271,
  v275]) fun v276 => .pure (.nilChk v23) fun v277 => .pure (.fieldA 98 v277 9) fun v278 => .op [] (.store 33 v278 v276) fun _ => .ret [(.bool false)]) (.pure (.bin .eql 92 (.tmp
  27) (.const (.int .i64 28)) v27 (.int .i64 28)) fun v280 => .ite v280 (.pure (.nilChk a0) fun v283 => .pure (.fieldA 193 v283 5) fun v284 => .look (.load 187 v284) fun v285 =>
  .pure (.nilChk v23) fun v287 => .pure (.fieldA 98 v287 1) fun v288 => .look (.load 3 v288) fun v289 => .pure (.indexA 187 v285 v289) fun v290 => .look (.load 264 v290) fun v291
  => .pure (.nilChk v23) fun v293 => .pure (.fieldA 98 v293 4) fun v294 => .look (.load 3 v294) fun v295 => .op [] (.callv (.func (.func 284) #[] #[]) #[v291, v295]) fun v296 =>
  .pure (.nilChk v23) fun v297 => .pure (.fieldA 98 v297 9) fun v298 => .op [] (.store 33 v298 v296) fun _ => .pure (.nilChk v23) fun v300 => .pure (.fieldA 98 v300 4) fun v301 =>
  .op [] (.store 3 v301 (.int .i64 (-1))) fun _ => .ret [(.bool false)]) (.pure (.bin .eql 92 (.tmp 27) (.const (.int .i64 14)) v27 (.int .i64 14)) fun v303 => .ite v303 (.pure
  (.nilChk a0) fun v305 => .pure (.fieldA 193 v305 11) fun v306 => .look (.load 115 v306) fun v307 => .pure (.nilChk a0) fun v310 => .pure (.fieldA 193 v310 8) fun v311 => .look
  (.load 112 v311) fun v312 => .op [(.load 115 v306, v307)] (.callv (.func (.func 181) #[] #[]) #[v312]) fun v313 => .pure (.indexA 115 v307 a1) fun v314 => .op [] (.store 4 v314
  v313) fun _ => .ret [(.bool false)]) (.pure (.bin .eql 92 (.tmp 27) (.const (.int .i64 25)) v27 (.int .i64 25)) fun v316 => .ite v316 (.pure (.nilChk a0) fun v319 => .pure
  (.fieldA 193 v319 8) fun v320 => .look (.load 112 v320) fun v321 => .op [] (.callv (.func (.func 285) #[] #[]) #[v321]) fun v322 => .pure (.extract v322 0) fun v323 => .pure
  (.extract v322 1) fun v324 => .op [] (.callv (.func (.func 273) #[] #[]) #[a0, a1, v323, v324]) fun _ => .ret [(.bool false)]) (.pure (.bin .eql 92 (.tmp 27) (.const (.int .i64
  23)) v27 (.int .i64 23)) fun v331 => .ite v331 (.op [] (.callv (.func (.func 286) #[] #[]) #[a0, a1, a2]) fun v335 => .ret [v335]) (.join (.pure (.bin .eql 92 (.tmp 27) (.const
  (.int .i64 29)) v27 (.int .i64 29)) fun v337 => .ite v337 (.leaf none [v337]) (.pure (.bin .eql 92 (.tmp 27) (.const (.int .i64 30)) v27 (.int .i64 30)) fun v338 => .leaf none
  [v338])) fun e s1 => onE e (.ite (sl s1 0) (.op [] (.callv (.func (.func 287) #[] #[]) #[a0, a1, a2]) fun v342 => .ret [v342]) (.ret [(.bool false)])) fun x => (if Nat.beq x 0
  then .ret [(.bool false)] else .bad))))))))))))))))))
theorem tree238 (a0 a1 a2 : Value) : treeF cfg238 Go.Proofs.Tryz.f238 [a0, a1, a2] = t238 a0 a1 a2 := by kernel_rfl
theorem calls238 (a0 a1 a2 : Value) {H : Heap} {Q : Value → Heap → Prop} (h : wpH Go.Proofs.Tryz.prog (fun vs H' => Q (retVal vs) H') (t238 a0 a1 a2) (fun _ _ _ => False) H) : CallsH Go.Proofs.Tryz.prog 238 #[a0, a1, a2] H Q :=
  callsH_of_tree cfg238 mixed Go.Proofs.Tryz.func238 (by rw [tree238]; exact h)

/-- (*hostler/world.World).then -/
def cfg239 : Cfg := ⟨tyInts, tyMaps, [(8, [23]), (26, [100]), (38, [145])], [(39, [164])], []⟩
def t239 (a0 a1 : Value) : T := .pure (.nilChk a0) fun v7 => .pure (.fieldA 193 v7 10) fun v8 => .look (.load 189 v8) fun v9 => .pure (.indexA 189 v9 a1) fun v11 => .pure (.nilChk
  a0) fun v13 => .pure (.fieldA 193 v13 11) fun v14 => .look (.load 115 v14) fun v15 => .pure (.indexA 115 v15 a1) fun v17 => .look (.load 4 v17) fun v18 => .pure (.nilChk v11) fun
  v20 => .pure (.fieldA 98 v20 0) fun v21 => .look (.load 92 v21) fun v22 => .join (.pure (.bin .eql 92 (.tmp 22) (.const (.int .i64 2)) v22 (.int .i64 2)) fun v24 => .ite v24
  (.leaf none [v24]) (.pure (.bin .eql 92 (.tmp 22) (.const (.int .i64 3)) v22 (.int .i64 3)) fun v25 => .ite v25 (.leaf none [v25]) (.pure (.bin .eql 92 (.tmp 22) (.const (.int
  .i64 4)) v22 (.int .i64 4)) fun v26 => .ite v26 (.leaf none [v26]) (.pure (.bin .eql 92 (.tmp 22) (.const (.int .i64 6)) v22 (.int .i64 6)) fun v27 => .ite v27 (.leaf none [v27])
  (.pure (.bin .eql 92 (.tmp 22) (.const (.int .i64 7)) v22 (.int .i64 7)) fun v28 => .leaf none [v28]))))) fun e s1 => onE e (.ite (sl s1 0) (.op [] (.callv (.func (.func 288) #[]
  #[]) #[a0, a1, v18]) fun _ => .ret []) (.pure (.bin .eql 92 (.tmp 22) (.const (.int .i64 9)) v22 (.int .i64 9)) fun v34 => .ite v34 (.pure (.nilChk v11) fun v36 => .pure (.fieldA
  98 v36 6) fun v37 => .look (.load 3 v37) fun v38 => .pure (.bin .add 3 (.tmp 38) (.const (.int .i64 1)) v38 (.int .i64 1)) fun v39 => .pure (.nilChk v11) fun v40 => .pure
  (.fieldA 98 v40 6) fun v41 => .op [] (.store 3 v41 v39) fun _ => .pure (.nilChk v11) fun v45 => .pure (.fieldA 98 v45 6) fun v46 => .look (.load 3 v46) fun v47 => .pure (.nilChk
  a0) fun v49 => .pure (.fieldA 193 v49 0) fun v50 => .pure (.fieldA 24 v50 0) fun v51 => .look (.load 3 v51) fun v52 => .pure (.bin .lss 3 (.tmp 47) (.tmp 52) v47 v52) fun v53 =>
  .op [] (.callv (.func (.func 243) #[] #[]) #[v53, (.int .i64 9), (.int .i64 10)]) fun v54 => .op [] (.callv (.func (.func 243) #[] #[]) #[v18, (.int .i64 11), v54]) fun v55 =>
  .pure (.nilChk v11) fun v56 => .pure (.fieldA 98 v56 0) fun v57 => .op [] (.store 92 v57 v55) fun _ => .ret []) (.pure (.bin .eql 92 (.tmp 22) (.const (.int .i64 10)) v22 (.int
  .i64 10)) fun v59 => .ite v59 (.op [] (.callv (.func (.func 243) #[] #[]) #[v18, (.int .i64 11), (.int .i64 13)]) fun v62 => .pure (.nilChk v11) fun v63 => .pure (.fieldA 98 v63
  0) fun v64 => .op [] (.store 92 v64 v62) fun _ => .ret []) (.pure (.bin .eql 92 (.tmp 22) (.const (.int .i64 11)) v22 (.int .i64 11)) fun v66 => .ite v66 (.op [] (.callv (.func
  (.func 243) #[] #[]) #[v18, (.int .i64 12), (.int .i64 13)]) fun v69 => .pure (.nilChk v11) fun v70 => .pure (.fieldA 98 v70 0) fun v71 => .op [] (.store 92 v71 v69) fun _ =>
  .ret []) (.pure (.bin .eql 92 (.tmp 22) (.const (.int .i64 13)) v22 (.int .i64 13)) fun v73 => .ite v73 (.pure (.nilChk v11) fun v76 => .pure (.fieldA 98 v76 7) fun v77 => .look
  (.load 4 v77) fun v78 => .op [(.load 4 v77, v78)] (.callv (.func (.func 243) #[] #[]) #[v18, (.int .i64 14), (.int .i64 16)]) fun v80 => .op [] (.callv (.func (.func 243) #[]
  #[]) #[v78, (.int .i64 4), v80]) fun v81 => .pure (.nilChk v11) fun v82 => .pure (.fieldA 98 v82 0) fun v83 => .op [] (.store 92 v83 v81) fun _ => .ret []) (.pure (.bin .eql 92
  (.tmp 22) (.const (.int .i64 14)) v22 (.int .i64 14)) fun v85 => .ite v85 (.op [] (.callv (.func (.func 243) #[] #[]) #[v18, (.int .i64 15), (.int .i64 16)]) fun v88 => .pure
  (.nilChk v11) fun v89 => .pure (.fieldA 98 v89 0) fun v90 => .op [] (.store 92 v90 v88) fun _ => .ret []) (.pure (.bin .eql 92 (.tmp 22) (.const (.int .i64 15)) v22 (.int .i64
  15)) fun v92 => .ite v92 (.pure (.nilChk v11) fun v94 => .pure (.fieldA 98 v94 0) fun v95 => .op [] (.store 92 v95 (.int .i64 16)) fun _ => .ite v18 (.op [] (.callv (.func (.func
  232) #[] #[]) #[a0, a1, (.int .i64 13)]) fun _ => .ret []) (.ret [])) (.join (.pure (.bin .eql 92 (.tmp 22) (.const (.int .i64 17)) v22 (.int .i64 17)) fun v101 => .ite v101
  (.leaf none [v101]) (.pure (.bin .eql 92 (.tmp 22) (.const (.int .i64 18)) v22 (.int .i64 18)) fun v102 => .leaf none [v102])) fun e s2 => onE e (.ite (sl s2 0) (.op [] (.callv
  (.func (.func 289) #[] #[]) #[a0, a1]) fun _ => .ret []) (.pure (.bin .eql 92 (.tmp 22) (.const (.int .i64 28)) v22 (.int .i64 28)) fun v107 => .ite v107 (.pure (.nilChk v11) fun
  v109 => .pure (.fieldA 98 v109 10) fun v110 => .op [] (.store 92 v110 (.int .i64 0)) fun _ => .op [] (.callv (.func (.func 289) #[] #[]) #[a0, a1]) fun _ => .ret []) (.pure (.bin
  .eql 92 (.tmp 22) (.const (.int .i64 27)) v22 (.int .i64 27)) fun v115 => .ite v115 (.pure (.nilChk v11) fun v117 => .pure (.fieldA 98 v117 0) fun v118 => .op [] (.store 92 v118
  (.int .i64 21)) fun _ => .ret []) (.pure (.bin .eql 92 (.tmp 22) (.const (.int .i64 23)) v22 (.int .i64 23)) fun v120 => .ite v120 (.pure (.nilChk v11) fun v123 => .pure (.fieldA
  98 v123 5) fun v124 => .look (.load 3 v124) fun v125 => .pure (.bin .geq 3 (.tmp 125) (.const (.int .i64 0)) v125 (.int .i64 0)) fun v126 => .pure (.nilChk v11) fun v128 => .pure
  (.fieldA 98 v128 10) fun v129 => .look (.load 92 v129) fun v130 => .op [] (.callv (.func (.func 243) #[] #[]) #[v126, (.int .i64 24), v130]) fun v131 => .pure (.nilChk v11) fun
  v132 => .pure (.fieldA 98 v132 0) fun v133 => .op [] (.store 92 v133 v131) fun _ => .ret []) (.pure (.bin .eql 92 (.tmp 22) (.const (.int .i64 25)) v22 (.int .i64 25)) fun v135
  => .ite v135 (.pure (.nilChk v11) fun v139 => .pure (.fieldA 98 v139 11) fun v140 => .look (.load 92 v140) fun v141 => .op [] (.callv (.func (.func 243) #[] #[]) #[v18, (.int
  .i64 26), v141]) fun v142 => .pure (.nilChk v11) fun v143 => .pure (.fieldA 98 v143 0) fun v144 => .op [] (.store 92 v144 v142) fun _ => .ret []) (.join (.pure (.bin .eql 92
  (.tmp 22) (.const (.int .i64 29)) v22 (.int .i64 29)) fun v146 => .ite v146 (.leaf none [v146]) (.pure (.bin .eql 92 (.tmp 22) (.const (.int .i64 30)) v22 (.int .i64 30)) fun
  v147 => .leaf none [v147])) fun e s3 => onE e (.ite (sl s3 0) (.pure (.nilChk v11) fun v150 => .pure (.fieldA 98 v150 2) fun v151 => .look (.load 3 v151) fun v152 => .pure (.bin
  .geq 3 (.tmp 152) (.const (.int .i64 0)) v152 (.int .i64 0)) fun v153 => .op [] (.callv (.func (.func 243) #[] #[]) #[v153, (.int .i64 0), (.int .i64 1)]) fun v154 => .pure
  (.nilChk v11) fun v155 => .pure (.fieldA 98 v155 0) fun v156 => .op [] (.store 92 v156 v154) fun _ => .join (.pure (.nilChk v11) fun v158 => .pure (.fieldA 98 v158 2) fun v159 =>
  .look (.load 3 v159) fun v160 => .pure (.bin .lss 3 (.tmp 160) (.const (.int .i64 0)) v160 (.int .i64 0)) fun v161 => .ite v161 (.leaf none [v18]) (.leaf none [(.bool false)]))
  fun e s4 => onE e (.ite (sl s4 0) (.op [] (.callv (.func (.func 232) #[] #[]) #[a0, a1, (.int .i64 1)]) fun _ => .ret []) (.ret [])) fun _ => .bad) (.ret [])) fun x => (if
  Nat.beq x 0 then .ret [] else .bad))))))) fun x => (if Nat.beq x 0 then .ret [] else .bad))))))))) fun x => (if Nat.beq x 0 then .ret [] else .bad)
theorem tree239 (a0 a1 : Value) : treeF cfg239 Go.Proofs.Tryz.f239 [a0, a1] = t239 a0 a1 := by kernel_rfl
theorem calls239 (a0 a1 : Value) {H : Heap} {Q : Value → Heap → Prop} (h : wpH Go.Proofs.Tryz.prog (fun vs H' => Q (retVal vs) H') (t239 a0 a1) (fun _ _ _ => False) H) : CallsH Go.Proofs.Tryz.prog 239 #[a0, a1] H Q :=
  callsH_of_tree cfg239 mixed Go.Proofs.Tryz.func239 (by rw [tree239]; exact h)

/-- (*hostler/world.World).steal -/
def cfg241 : Cfg := ⟨tyInts, tyMaps, [], [], []⟩
def t241 (a0 a1 a2 : Value) : T := .pure (.nilChk a0) fun v8 => .pure (.fieldA 193 v8 10) fun v9 => .look (.load 189 v9) fun v10 => .pure (.indexA 189 v10 a1) fun v12 => .pure
  (.nilChk v12) fun v15 => .pure (.fieldA 98 v15 6) fun v16 => .op [] (.store 3 v16 a2) fun _ => .pure (.nilChk v12) fun v18 => .pure (.fieldA 98 v18 0) fun v19 => .op [] (.store
  92 v19 (.int .i64 6)) fun _ => .pure (.nilChk a0) fun v22 => .pure (.fieldA 193 v22 0) fun v23 => .pure (.fieldA 24 v23 0) fun v24 => .look (.load 3 v24) fun v25 => .pure (.bin
  .geq 3 (.tmp 20) (.tmp 25) a2 v25) fun v26 => .ite v26 (.pure (.nilChk v12) fun v28 => .pure (.fieldA 98 v28 0) fun v29 => .op [] (.store 92 v29 (.int .i64 7)) fun _ => .ret [])
  (.ret [])
theorem tree241 (a0 a1 a2 : Value) : treeF cfg241 Go.Proofs.Tryz.f241 [a0, a1, a2] = t241 a0 a1 a2 := by kernel_rfl
theorem calls241 (a0 a1 a2 : Value) {H : Heap} {Q : Value → Heap → Prop} (h : wpH Go.Proofs.Tryz.prog (fun vs H' => Q (retVal vs) H') (t241 a0 a1 a2) (fun _ _ _ => False) H) : CallsH Go.Proofs.Tryz.prog 241 #[a0, a1, a2] H Q :=
  callsH_of_tree cfg241 mixed Go.Proofs.Tryz.func241 (by rw [tree241]; exact h)

/-- (*hostler/world.World).add -/
def cfg242 : Cfg := ⟨tyInts, tyMaps, [], [], []⟩
def t242 (a0 a1 a2 a3 a4 : Value) : T := .pure (.nilChk a0) fun v11 => .pure (.fieldA 193 v11 12) fun v12 => .pure (.nilChk a0) fun v17 => .pure (.fieldA 193 v17 10) fun v18 =>
  .look (.load 189 v18) fun v19 => .pure (.indexA 189 v19 a1) fun v21 => .pure (.fieldA 98 v21 1) fun v22 => .look (.load 3 v22) fun v23 => .pure (.build 43 #[(0, a2), (1, a3), (2,
  a1), (3, v23), (4, a4)]) fun v25 => .op [] (.callv (.func (.func 160) #[] #[]) #[v12, v25]) fun _ => .ret []
theorem tree242 (a0 a1 a2 a3 a4 : Value) : treeF cfg242 Go.Proofs.Tryz.f242 [a0, a1, a2, a3, a4] = t242 a0 a1 a2 a3 a4 := by kernel_rfl
theorem calls242 (a0 a1 a2 a3 a4 : Value) {H : Heap} {Q : Value → Heap → Prop} (h : wpH Go.Proofs.Tryz.prog (fun vs H' => Q (retVal vs) H') (t242 a0 a1 a2 a3 a4) (fun _ _ _ => False) H) : CallsH Go.Proofs.Tryz.prog 242 #[a0, a1, a2, a3, a4] H Q :=
  callsH_of_tree cfg242 mixed Go.Proofs.Tryz.func242 (by rw [tree242]; exact h)

/-- hostler/world.either -/
def cfg243 : Cfg := ⟨tyInts, tyMaps, [], [], []⟩
def t243 (a0 a1 a2 : Value) : T := .ite a0 (.ret [a1]) (.ret [a2])
theorem tree243 (a0 a1 a2 : Value) : treeF cfg243 Go.Proofs.Tryz.f243 [a0, a1, a2] = t243 a0 a1 a2 := by kernel_rfl
theorem calls243 (a0 a1 a2 : Value) {H : Heap} {Q : Value → Heap → Prop} (h : wpH Go.Proofs.Tryz.prog (fun vs H' => Q (retVal vs) H') (t243 a0 a1 a2) (fun _ _ _ => False) H) : CallsH Go.Proofs.Tryz.prog 243 #[a0, a1, a2] H Q :=
  callsH_of_tree cfg243 mixed Go.Proofs.Tryz.func243 (by rw [tree243]; exact h)

/-- (*hostler/world.World).one -/
def cfg273 : Cfg := ⟨tyInts, tyMaps, [], [], []⟩
def t273 (a0 a1 a2 a3 : Value) : T := .ite a3 (.op [] (.buildSlice 33 1 #[(0, a2)]) fun v12 => .op [] (.callv (.func (.func 275) #[] #[]) #[a0, a1, v12]) fun _ => .ret []) (.op []
  (.callv (.func (.func 275) #[] #[]) #[a0, a1, (.slice none 0 0)]) fun _ => .ret [])
theorem tree273 (a0 a1 a2 a3 : Value) : treeF cfg273 Go.Proofs.Tryz.f273 [a0, a1, a2, a3] = t273 a0 a1 a2 a3 := by kernel_rfl
theorem calls273 (a0 a1 a2 a3 : Value) {H : Heap} {Q : Value → Heap → Prop} (h : wpH Go.Proofs.Tryz.prog (fun vs H' => Q (retVal vs) H') (t273 a0 a1 a2 a3) (fun _ _ _ => False) H) : CallsH Go.Proofs.Tryz.prog 273 #[a0, a1, a2, a3] H Q :=
  callsH_of_tree cfg273 mixed Go.Proofs.Tryz.func273 (by rw [tree273]; exact h)

/-- (*hostler/world.World).found -/
def cfg275 : Cfg := ⟨tyInts, tyMaps, [], [], []⟩
def t275 (a0 a1 a2 : Value) : T := .pure (.nilChk a0) fun v8 => .pure (.fieldA 193 v8 10) fun v9 => .look (.load 189 v9) fun v10 => .pure (.indexA 189 v10 a1) fun v12 => .pure
  (.nilChk a0) fun v14 => .pure (.fieldA 193 v14 11) fun v15 => .look (.load 115 v15) fun v16 => .pure (.builtin .len #[33] 3 #[false] #[a2]) fun v19 => .pure (.bin .gtr 3 (.tmp
  19) (.const (.int .i64 0)) v19 (.int .i64 0)) fun v20 => .pure (.indexA 115 v16 a1) fun v21 => .op [] (.store 4 v21 v20) fun _ => .pure (.builtin .len #[33] 3 #[false] #[a2]) fun
  v23 => .pure (.bin .gtr 3 (.tmp 23) (.const (.int .i64 0)) v23 (.int .i64 0)) fun v24 => .ite v24 (.pure (.indexA 33 a2 (.int .i64 0)) fun v28 => .look (.load 3 v28) fun v29 =>
  .pure (.slice 33 a2 (some (.int .i64 1)) none none) fun v31 => .op [(.load 3 v28, v29)] (.callv (.func (.func 134) #[] #[]) #[v31]) fun v32 => .pure (.nilChk v12) fun v33 =>
  .pure (.fieldA 98 v33 4) fun v34 => .op [] (.store 3 v34 v29) fun _ => .pure (.nilChk v12) fun v35 => .pure (.fieldA 98 v35 9) fun v36 => .op [] (.store 33 v36 v32) fun _ => .ret
  []) (.ret [])
theorem tree275 (a0 a1 a2 : Value) : treeF cfg275 Go.Proofs.Tryz.f275 [a0, a1, a2] = t275 a0 a1 a2 := by kernel_rfl
theorem calls275 (a0 a1 a2 : Value) {H : Heap} {Q : Value → Heap → Prop} (h : wpH Go.Proofs.Tryz.prog (fun vs H' => Q (retVal vs) H') (t275 a0 a1 a2) (fun _ _ _ => False) H) : CallsH Go.Proofs.Tryz.prog 275 #[a0, a1, a2] H Q :=
  callsH_of_tree cfg275 mixed Go.Proofs.Tryz.func275 (by rw [tree275]; exact h)

/-- (*hostler/world.World).hold -/
def cfg281 : Cfg := ⟨tyInts, tyMaps, [], [], []⟩
def t281 (a0 a1 a2 a3 : Value) : T := .pure (.nilChk a0) fun v9 => .pure (.fieldA 193 v9 11) fun v10 => .look (.load 115 v10) fun v11 => .pure (.indexA 115 v11 a1) fun v14 => .op
  [] (.store 4 v14 a3) fun _ => .ite a3 (.pure (.nilChk a0) fun v17 => .pure (.fieldA 193 v17 10) fun v18 => .look (.load 189 v18) fun v19 => .pure (.indexA 189 v19 a1) fun v22 =>
  .pure (.fieldA 98 v22 1) fun v23 => .op [] (.store 3 v23 a2) fun _ => .ret []) (.ret [])
theorem tree281 (a0 a1 a2 a3 : Value) : treeF cfg281 Go.Proofs.Tryz.f281 [a0, a1, a2, a3] = t281 a0 a1 a2 a3 := by kernel_rfl
theorem calls281 (a0 a1 a2 a3 : Value) {H : Heap} {Q : Value → Heap → Prop} (h : wpH Go.Proofs.Tryz.prog (fun vs H' => Q (retVal vs) H') (t281 a0 a1 a2 a3) (fun _ _ _ => False) H) : CallsH Go.Proofs.Tryz.prog 281 #[a0, a1, a2, a3] H Q :=
  callsH_of_tree cfg281 mixed Go.Proofs.Tryz.func281 (by rw [tree281]; exact h)

/-- (*hostler/world.World).find -/
def cfg286 : Cfg := ⟨tyInts, tyMaps, [], [], []⟩
def t286 (a0 a1 a2 : Value) : T := .pure (.nilChk a0) fun v13 => .pure (.fieldA 193 v13 10) fun v14 => .look (.load 189 v14) fun v15 => .pure (.indexA 189 v15 a1) fun v17 => .pure
  (.bin .gtr 3 (.tmp 18) (.const (.int .i64 0)) a2 (.int .i64 0)) fun v19 => .ite v19 (.pure (.nilChk a0) fun v21 => .pure (.fieldA 193 v21 1) fun v22 => .look (.load 63 v22) fun
  v23 => .pure (.nilChk a0) fun v25 => .pure (.fieldA 193 v25 2) fun v26 => .look (.load 3 v26) fun v27 => .op [] (.callv (.func (.func 240) #[] #[]) #[v23, v27, (.int .i64 (-1))])
  fun _ => .ret [(.bool false)]) (.pure (.nilChk a0) fun v31 => .pure (.fieldA 193 v31 9) fun v32 => .look (.load 147 v32) fun v33 => .op [] (.callv (.func (.func 280) #[] #[])
  #[v33]) fun v34 => .pure (.extract v34 0) fun v35 => .pure (.extract v34 1) fun v36 => .pure (.un .not v36) fun v38 => .ite v38 (.ret [(.bool true)]) (.pure (.nilChk a0) fun v41
  => .pure (.fieldA 193 v41 9) fun v42 => .look (.load 147 v42) fun v43 => .op [] (.callv (.func (.func 331) #[] #[]) #[v43]) fun v44 => .pure (.extract v44 0) fun v45 => .pure
  (.extract v44 1) fun v46 => .ite v46 (.pure (.nilChk a0) fun v49 => .pure (.fieldA 193 v49 10) fun v50 => .look (.load 189 v50) fun v51 => .pure (.indexA 189 v51 v45) fun v56 =>
  .pure (.fieldA 98 v56 3) fun v57 => .op [] (.store 3 v57 v35) fun _ => .pure (.nilChk v17) fun v58 => .pure (.fieldA 98 v58 5) fun v59 => .op [] (.store 3 v59 v45) fun _ => .ret
  [(.bool false)]) (.pure (.nilChk a0) fun v61 => .pure (.fieldA 193 v61 9) fun v62 => .look (.load 147 v62) fun v63 => .op [] (.callv (.func (.func 332) #[] #[]) #[v63, v35]) fun
  _ => .ret [(.bool false)])))
theorem tree286 (a0 a1 a2 : Value) : treeF cfg286 Go.Proofs.Tryz.f286 [a0, a1, a2] = t286 a0 a1 a2 := by kernel_rfl
theorem calls286 (a0 a1 a2 : Value) {H : Heap} {Q : Value → Heap → Prop} (h : wpH Go.Proofs.Tryz.prog (fun vs H' => Q (retVal vs) H') (t286 a0 a1 a2) (fun _ _ _ => False) H) : CallsH Go.Proofs.Tryz.prog 286 #[a0, a1, a2] H Q :=
  callsH_of_tree cfg286 mixed Go.Proofs.Tryz.func286 (by rw [tree286]; exact h)

/-- (*hostler/world.World).out -/
def cfg287 : Cfg := ⟨tyInts, tyMaps, [], [], []⟩
def t287 (a0 a1 a2 : Value) : T := .pure (.nilChk a0) fun v13 => .pure (.fieldA 193 v13 10) fun v14 => .look (.load 189 v14) fun v15 => .pure (.indexA 189 v15 a1) fun v17 => .pure
  (.nilChk v17) fun v19 => .pure (.fieldA 98 v19 2) fun v20 => .look (.load 3 v20) fun v21 => .pure (.nilChk v17) fun v23 => .pure (.fieldA 98 v23 0) fun v24 => .look (.load 92
  v24) fun v25 => .pure (.bin .eql 92 (.tmp 25) (.const (.int .i64 30)) v25 (.int .i64 30)) fun v26 => .ite v26 (.pure (.bin .eql 3 (.tmp 27) (.const (.int .i64 0)) a2 (.int .i64
  0)) fun v28 => .ite v28 (.pure (.nilChk a0) fun v31 => .pure (.fieldA 193 v31 8) fun v32 => .look (.load 112 v32) fun v33 => .pure (.nilChk v17) fun v35 => .pure (.fieldA 98 v35
  12) fun v36 => .look (.load 2 v36) fun v37 => .pure (.conv 2 197 v37) fun v38 => .op [] (.callv (.func (.func 333) #[] #[]) #[v33, v38, v21]) fun v40 => .pure (.extract v40 0)
  fun v41 => .pure (.extract v40 1) fun v42 => .pure (.nilChk a0) fun v44 => .pure (.fieldA 193 v44 11) fun v45 => .look (.load 115 v45) fun v46 => .pure (.indexA 115 v46 a1) fun
  v49 => .op [] (.store 4 v49 v41) fun _ => .pure (.bin .eql 149 (.tmp 50) (.const (.int .i64 0)) v42 (.int .i64 0)) fun v51 => .ret [v51]) (.pure (.nilChk a0) fun v53 => .pure
  (.fieldA 193 v53 4) fun v54 => .look (.load 186 v54) fun v55 => .pure (.nilChk a0) fun v57 => .pure (.fieldA 193 v57 1) fun v58 => .look (.load 63 v58) fun v59 => .op [] (.callv
  (.func (.func 159) #[] #[]) #[v55, v59, v21, (.int .u64 2), (.int .u64 5)]) fun _ => .pure (.nilChk v17) fun v66 => .pure (.fieldA 98 v66 12) fun v67 => .look (.load 2 v67) fun
  v68 => .op [] (.callv (.func (.func 242) #[] #[]) #[a0, a1, (.int .i64 6), v21, v68]) fun _ => .pure (.nilChk v17) fun v71 => .pure (.fieldA 98 v71 2) fun v72 => .op [] (.store 3
  v72 (.int .i64 (-1))) fun _ => .ret [(.bool false)])) (.pure (.bin .eql 3 (.tmp 73) (.const (.int .i64 0)) a2 (.int .i64 0)) fun v74 => .ite v74 (.pure (.nilChk a0) fun v76 =>
  .pure (.fieldA 193 v76 8) fun v77 => .look (.load 112 v77) fun v78 => .pure (.nilChk v17) fun v81 => .pure (.fieldA 98 v81 12) fun v82 => .look (.load 2 v82) fun v83 => .pure
  (.builtin .max #[2, 2] 2 #[true, false] #[(.int .i64 0), v83]) fun v84 => .op [(.load 2 v82, v83)] (.callv (.func (.func 85) #[] #[]) #[v78]) fun v79 => .op [] (.callv (.func
  (.func 291) #[] #[]) #[v79, v84]) fun v85 => .pure (.nilChk a0) fun v88 => .pure (.fieldA 193 v88 11) fun v89 => .look (.load 115 v89) fun v90 => .pure (.nilChk a0) fun v93 =>
  .pure (.fieldA 193 v93 8) fun v94 => .look (.load 112 v94) fun v95 => .pure (.nilChk v17) fun v97 => .pure (.fieldA 98 v97 1) fun v98 => .look (.load 3 v98) fun v99 => .pure
  (.nilChk v17) fun v102 => .pure (.fieldA 98 v102 12) fun v103 => .look (.load 2 v103) fun v104 => .op [(.load 115 v89, v90)] (.callv (.func (.func 334) #[] #[]) #[v95, v99, v21,
  v104]) fun v105 => .pure (.extract v105 0) fun v106 => .pure (.extract v105 1) fun _ => .pure (.indexA 115 v90 a1) fun v108 => .op [] (.store 4 v108 v106) fun _ => .pure (.nilChk
  v17) fun v111 => .pure (.fieldA 98 v111 12) fun v112 => .op [] (.store 2 v112 v85) fun _ => .ret [(.bool true)]) (.pure (.nilChk a0) fun v114 => .pure (.fieldA 193 v114 4) fun
  v115 => .look (.load 186 v115) fun v116 => .pure (.nilChk a0) fun v118 => .pure (.fieldA 193 v118 1) fun v119 => .look (.load 63 v119) fun v120 => .op [] (.callv (.func (.func
  159) #[] #[]) #[v116, v120, v21, (.int .u64 2), (.int .u64 4)]) fun _ => .pure (.nilChk v17) fun v127 => .pure (.fieldA 98 v127 12) fun v128 => .look (.load 2 v128) fun v129 =>
  .op [] (.callv (.func (.func 242) #[] #[]) #[a0, a1, (.int .i64 5), v21, v129]) fun _ => .pure (.nilChk v17) fun v132 => .pure (.fieldA 98 v132 2) fun v133 => .op [] (.store 3
  v133 (.int .i64 (-1))) fun _ => .ret [(.bool false)]))
theorem tree287 (a0 a1 a2 : Value) : treeF cfg287 Go.Proofs.Tryz.f287 [a0, a1, a2] = t287 a0 a1 a2 := by kernel_rfl
theorem calls287 (a0 a1 a2 : Value) {H : Heap} {Q : Value → Heap → Prop} (h : wpH Go.Proofs.Tryz.prog (fun vs H' => Q (retVal vs) H') (t287 a0 a1 a2) (fun _ _ _ => False) H) : CallsH Go.Proofs.Tryz.prog 287 #[a0, a1, a2] H Q :=
  callsH_of_tree cfg287 mixed Go.Proofs.Tryz.func287 (by rw [tree287]; exact h)

/-- (*hostler/world.World).searched -/
def cfg288 : Cfg := ⟨tyInts, tyMaps, [], [], []⟩
def t288 (a0 a1 a2 : Value) : T := .pure (.nilChk a0) fun v8 => .pure (.fieldA 193 v8 10) fun v9 => .look (.load 189 v9) fun v10 => .pure (.indexA 189 v10 a1) fun v12 => .ite a2
  (.op [] (.callv (.func (.func 335) #[] #[]) #[a0, a1]) fun _ => .ret []) (.pure (.nilChk v12) fun v23 => .pure (.fieldA 98 v23 0) fun v24 => .look (.load 92 v24) fun v25 => .pure
  (.bin .eql 92 (.tmp 25) (.const (.int .i64 2)) v25 (.int .i64 2)) fun v26 => .ite v26 (.pure (.nilChk v12) fun v28 => .pure (.fieldA 98 v28 0) fun v29 => .op [] (.store 92 v29
  (.int .i64 3)) fun _ => .ret []) (.pure (.nilChk v12) fun v32 => .pure (.fieldA 98 v32 0) fun v33 => .look (.load 92 v33) fun v34 => .pure (.bin .eql 92 (.tmp 34) (.const (.int
  .i64 3)) v34 (.int .i64 3)) fun v35 => .ite v35 (.pure (.nilChk v12) fun v37 => .pure (.fieldA 98 v37 0) fun v38 => .op [] (.store 92 v38 (.int .i64 4)) fun _ => .ret []) (.pure
  (.nilChk v12) fun v41 => .pure (.fieldA 98 v41 0) fun v42 => .look (.load 92 v42) fun v43 => .pure (.bin .eql 92 (.tmp 43) (.const (.int .i64 7)) v43 (.int .i64 7)) fun v44 =>
  .ite v44 (.pure (.nilChk v12) fun v46 => .pure (.fieldA 98 v46 0) fun v47 => .op [] (.store 92 v47 (.int .i64 8)) fun _ => .ret []) (.pure (.nilChk v12) fun v50 => .pure (.fieldA
  98 v50 0) fun v51 => .look (.load 92 v51) fun v52 => .pure (.bin .eql 92 (.tmp 52) (.const (.int .i64 6)) v52 (.int .i64 6)) fun v53 => .ite v53 (.pure (.nilChk v12) fun v57 =>
  .pure (.fieldA 98 v57 6) fun v58 => .look (.load 3 v58) fun v59 => .pure (.bin .add 3 (.tmp 59) (.const (.int .i64 1)) v59 (.int .i64 1)) fun v60 => .op [] (.callv (.func (.func
  241) #[] #[]) #[a0, a1, v60]) fun _ => .ret []) (.pure (.nilChk v12) fun v64 => .pure (.fieldA 98 v64 7) fun v65 => .look (.load 4 v65) fun v66 => .ite v66 (.op [] (.callv (.func
  (.func 241) #[] #[]) #[a0, a1, (.int .i64 1)]) fun _ => .ret []) (.pure (.nilChk v12) fun v14 => .pure (.fieldA 98 v14 0) fun v15 => .op [] (.store 92 v15 (.int .i64 5)) fun _ =>
  .ret []))))))
theorem tree288 (a0 a1 a2 : Value) : treeF cfg288 Go.Proofs.Tryz.f288 [a0, a1, a2] = t288 a0 a1 a2 := by kernel_rfl
theorem calls288 (a0 a1 a2 : Value) {H : Heap} {Q : Value → Heap → Prop} (h : wpH Go.Proofs.Tryz.prog (fun vs H' => Q (retVal vs) H') (t288 a0 a1 a2) (fun _ _ _ => False) H) : CallsH Go.Proofs.Tryz.prog 288 #[a0, a1, a2] H Q :=
  callsH_of_tree cfg288 mixed Go.Proofs.Tryz.func288 (by rw [tree288]; exact h)

/-- (*hostler/world.World).settle -/
def cfg289 : Cfg := ⟨tyInts, tyMaps, [], [], []⟩
def t289 (a0 a1 : Value) : T := .pure (.nilChk a0) fun v6 => .pure (.fieldA 193 v6 10) fun v7 => .look (.load 189 v7) fun v8 => .pure (.indexA 189 v8 a1) fun v10 => .pure (.nilChk
  v10) fun v16 => .pure (.fieldA 98 v16 9) fun v17 => .look (.load 33 v17) fun v18 => .pure (.builtin .len #[33] 3 #[false] #[v18]) fun v19 => .pure (.bin .gtr 3 (.tmp 19) (.const
  (.int .i64 0)) v19 (.int .i64 0)) fun v20 => .ite v20 (.pure (.nilChk v10) fun v22 => .pure (.fieldA 98 v22 0) fun v23 => .op [] (.store 92 v23 (.int .i64 18)) fun _ => .ret [])
  (.pure (.nilChk v10) fun v26 => .pure (.fieldA 98 v26 7) fun v27 => .look (.load 4 v27) fun v28 => .ite v28 (.pure (.nilChk v10) fun v30 => .pure (.fieldA 98 v30 0) fun v31 =>
  .op [] (.store 92 v31 (.int .i64 19)) fun _ => .ret []) (.pure (.nilChk v10) fun v12 => .pure (.fieldA 98 v12 0) fun v13 => .op [] (.store 92 v13 (.int .i64 21)) fun _ => .ret
  []))
theorem tree289 (a0 a1 : Value) : treeF cfg289 Go.Proofs.Tryz.f289 [a0, a1] = t289 a0 a1 := by kernel_rfl
theorem calls289 (a0 a1 : Value) {H : Heap} {Q : Value → Heap → Prop} (h : wpH Go.Proofs.Tryz.prog (fun vs H' => Q (retVal vs) H') (t289 a0 a1) (fun _ _ _ => False) H) : CallsH Go.Proofs.Tryz.prog 289 #[a0, a1] H Q :=
  callsH_of_tree cfg289 mixed Go.Proofs.Tryz.func289 (by rw [tree289]; exact h)

/-- (*hostler/world.World).take -/
def cfg335 : Cfg := ⟨tyInts, tyMaps, [], [], []⟩
def t335 (a0 a1 : Value) : T := .pure (.nilChk a0) fun v6 => .pure (.fieldA 193 v6 10) fun v7 => .look (.load 189 v7) fun v8 => .pure (.indexA 189 v8 a1) fun v10 => .pure (.nilChk
  v10) fun v12 => .pure (.fieldA 98 v12 10) fun v13 => .op [] (.store 92 v13 (.int .i64 20)) fun _ => .pure (.nilChk v10) fun v19 => .pure (.fieldA 98 v19 9) fun v20 => .look
  (.load 33 v20) fun v21 => .pure (.builtin .len #[33] 3 #[false] #[v21]) fun v22 => .pure (.bin .gtr 3 (.tmp 22) (.const (.int .i64 0)) v22 (.int .i64 0)) fun v23 => .ite v23
  (.pure (.nilChk v10) fun v25 => .pure (.fieldA 98 v25 0) fun v26 => .op [] (.store 92 v26 (.int .i64 17)) fun _ => .ret []) (.pure (.nilChk v10) fun v29 => .pure (.fieldA 98 v29
  7) fun v30 => .look (.load 4 v30) fun v31 => .ite v31 (.pure (.nilChk v10) fun v33 => .pure (.fieldA 98 v33 0) fun v34 => .op [] (.store 92 v34 (.int .i64 19)) fun _ => .ret [])
  (.pure (.nilChk v10) fun v15 => .pure (.fieldA 98 v15 0) fun v16 => .op [] (.store 92 v16 (.int .i64 20)) fun _ => .ret []))
theorem tree335 (a0 a1 : Value) : treeF cfg335 Go.Proofs.Tryz.f335 [a0, a1] = t335 a0 a1 := by kernel_rfl
theorem calls335 (a0 a1 : Value) {H : Heap} {Q : Value → Heap → Prop} (h : wpH Go.Proofs.Tryz.prog (fun vs H' => Q (retVal vs) H') (t335 a0 a1) (fun _ _ _ => False) H) : CallsH Go.Proofs.Tryz.prog 335 #[a0, a1] H Q :=
  callsH_of_tree cfg335 mixed Go.Proofs.Tryz.func335 (by rw [tree335]; exact h)

end Go.Tr
