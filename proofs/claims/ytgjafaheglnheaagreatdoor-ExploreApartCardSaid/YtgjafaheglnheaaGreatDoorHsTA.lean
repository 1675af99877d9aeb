/- The trees of Go functions of this program, each with the equation that says so and the law that leads from a proof over the tree to the call. Written by a program of this session; no condition. -/
import Derived.Test.YtgjafaheglnheaaGreatDoorHsBase
set_option maxRecDepth 100000
namespace Go.Tr
/-- (*hostler/cell.Memory).at -/
def cfg192 : Cfg := ⟨tyInts, tyMaps, [], [(1, [12])], []⟩
def t192 (a0 a1 : Value) : T := .join (.pure (.bin .lss 3 (.tmp 5) (.const (.int .i64 0)) a1 (.int .i64 0)) fun v6 => .ite v6 (.leaf none [(.bool true)]) (.op [] (.callv (.func
  (.func 115) #[] #[]) #[a0]) fun v10 => .pure (.bin .geq 3 (.tmp 8) (.tmp 10) a1 v10) fun v11 => .leaf none [v11])) fun e s1 => onE e (.ite (sl s1 0) (.ret [(.pointer none)])
  (.pure (.nilChk a0) fun v14 => .pure (.fieldA 202 v14 1) fun v15 => .look (.load 3 v15) fun v16 => .pure (.bin .add 3 (.tmp 16) (.const (.int .i64 1)) v16 (.int .i64 1)) fun v17
  => .pure (.nilChk a0) fun v18 => .pure (.fieldA 202 v18 1) fun v19 => .op [] (.store 3 v19 v17) fun _ => .pure (.nilChk a0) fun v21 => .pure (.fieldA 202 v21 0) fun v22 => .look
  (.load 200 v22) fun v23 => .pure (.indexA 200 v23 a1) fun v25 => .ret [v25])) fun _ => .bad
theorem tree192 (a0 a1 : Value) : treeF cfg192 Go.Proofs.Tryz.f192 [a0, a1] = t192 a0 a1 := by kernel_rfl
theorem calls192 (a0 a1 : Value) {H : Heap} {Q : Value → Heap → Prop} (h : wpH Go.Proofs.Tryz.prog (fun vs H' => Q (retVal vs) H') (t192 a0 a1) (fun _ _ _ => False) H) : CallsH Go.Proofs.Tryz.prog 192 #[a0, a1] H Q :=
  callsH_of_tree cfg192 mixed Go.Proofs.Tryz.func192 (by rw [tree192]; exact h)

/-- (*hostler/cell.Memory).Len -/
def cfg115 : Cfg := ⟨tyInts, tyMaps, [], [], []⟩
def t115 (a0 : Value) : T := .pure (.bin .eql 63 (.tmp 3) (.const (.pointer none)) a0 (.pointer none)) fun v4 => .ite v4 (.ret [(.int .i64 0)]) (.pure (.nilChk a0) fun v6 => .pure
  (.fieldA 202 v6 0) fun v7 => .look (.load 200 v7) fun v8 => .pure (.builtin .len #[200] 3 #[false] #[v8]) fun v9 => .ret [v9])
theorem tree115 (a0 : Value) : treeF cfg115 Go.Proofs.Tryz.f115 [a0] = t115 a0 := by kernel_rfl
theorem calls115 (a0 : Value) {H : Heap} {Q : Value → Heap → Prop} (h : wpH Go.Proofs.Tryz.prog (fun vs H' => Q (retVal vs) H') (t115 a0) (fun _ _ _ => False) H) : CallsH Go.Proofs.Tryz.prog 115 #[a0] H Q :=
  callsH_of_tree cfg115 mixed Go.Proofs.Tryz.func115 (by rw [tree115]; exact h)

/-- (*hostler/cell.Memory).Load -/
def cfg131 : Cfg := ⟨tyInts, tyMaps, [], [], []⟩
def t131 (a0 a1 : Value) : T := .op [] (.callv (.func (.func 192) #[] #[]) #[a0, a1]) fun v8 => .pure (.bin .neq 305 (.tmp 9) (.const (.pointer none)) v8 (.pointer none)) fun v10
  => .ite v10 (.pure (.nilChk v8) fun v12 => .look (.load 81 v12) fun v13 => .ret [v13]) (.ret [(.int .u64 0)])
theorem tree131 (a0 a1 : Value) : treeF cfg131 Go.Proofs.Tryz.f131 [a0, a1] = t131 a0 a1 := by kernel_rfl
theorem calls131 (a0 a1 : Value) {H : Heap} {Q : Value → Heap → Prop} (h : wpH Go.Proofs.Tryz.prog (fun vs H' => Q (retVal vs) H') (t131 a0 a1) (fun _ _ _ => False) H) : CallsH Go.Proofs.Tryz.prog 131 #[a0, a1] H Q :=
  callsH_of_tree cfg131 mixed Go.Proofs.Tryz.func131 (by rw [tree131]; exact h)

/-- (*hostler/cell.Memory).Swap -/
def cfg217 : Cfg := ⟨tyInts, tyMaps, [], [(2, [21])], []⟩
def t217 (a0 a1 a2 a3 : Value) : T := .op [] (.callv (.func (.func 192) #[] #[]) #[a0, a1]) fun v12 => .join (.pure (.bin .eql 305 (.tmp 13) (.const (.pointer none)) v12 (.pointer
  none)) fun v14 => .ite v14 (.leaf none [(.bool true)]) (.pure (.nilChk v12) fun v17 => .look (.load 81 v17) fun v18 => .pure (.bin .neq 81 (.tmp 18) (.tmp 19) v18 a2) fun v20 =>
  .leaf none [v20])) fun e s1 => onE e (.ite (sl s1 0) (.ret [(.bool false)]) (.pure (.nilChk v12) fun v24 => .op [] (.store 81 v24 a3) fun _ => .ret [(.bool true)])) fun _ => .bad
theorem tree217 (a0 a1 a2 a3 : Value) : treeF cfg217 Go.Proofs.Tryz.f217 [a0, a1, a2, a3] = t217 a0 a1 a2 a3 := by kernel_rfl
theorem calls217 (a0 a1 a2 a3 : Value) {H : Heap} {Q : Value → Heap → Prop} (h : wpH Go.Proofs.Tryz.prog (fun vs H' => Q (retVal vs) H') (t217 a0 a1 a2 a3) (fun _ _ _ => False) H) : CallsH Go.Proofs.Tryz.prog 217 #[a0, a1, a2, a3] H Q :=
  callsH_of_tree cfg217 mixed Go.Proofs.Tryz.func217 (by rw [tree217]; exact h)

/-- (*hostler/cell.Memory).Add -/
def cfg240 : Cfg := ⟨tyInts, tyMaps, [], [], []⟩
def t240 (a0 a1 a2 : Value) : T := .op [] (.callv (.func (.func 192) #[] #[]) #[a0, a1]) fun v10 => .pure (.bin .eql 305 (.tmp 11) (.const (.pointer none)) v10 (.pointer none)) fun
  v12 => .ite v12 (.ret [(.int .u64 0)]) (.pure (.nilChk v10) fun v14 => .look (.load 81 v14) fun v15 => .pure (.conv 2 81 a2) fun v17 => .pure (.bin .add 81 (.tmp 15) (.tmp 17)
  v15 v17) fun v18 => .pure (.nilChk v10) fun v19 => .op [] (.store 81 v19 v18) fun _ => .pure (.nilChk v10) fun v21 => .look (.load 81 v21) fun v22 => .ret [v22])
theorem tree240 (a0 a1 a2 : Value) : treeF cfg240 Go.Proofs.Tryz.f240 [a0, a1, a2] = t240 a0 a1 a2 := by kernel_rfl
theorem calls240 (a0 a1 a2 : Value) {H : Heap} {Q : Value → Heap → Prop} (h : wpH Go.Proofs.Tryz.prog (fun vs H' => Q (retVal vs) H') (t240 a0 a1 a2) (fun _ _ _ => False) H) : CallsH Go.Proofs.Tryz.prog 240 #[a0, a1, a2] H Q :=
  callsH_of_tree cfg240 mixed Go.Proofs.Tryz.func240 (by rw [tree240]; exact h)

/-- (*hostler/cell.Memory).Store -/
def cfg290 : Cfg := ⟨tyInts, tyMaps, [], [], []⟩
def t290 (a0 a1 a2 : Value) : T := .op [] (.callv (.func (.func 192) #[] #[]) #[a0, a1]) fun v10 => .pure (.bin .neq 305 (.tmp 11) (.const (.pointer none)) v10 (.pointer none)) fun
  v12 => .ite v12 (.pure (.nilChk v10) fun v15 => .op [] (.store 81 v15 a2) fun _ => .pure (.bin .neq 305 (.tmp 16) (.const (.pointer none)) v10 (.pointer none)) fun v17 => .ret
  [v17]) (.pure (.bin .neq 305 (.tmp 16) (.const (.pointer none)) v10 (.pointer none)) fun v17 => .ret [v17])
theorem tree290 (a0 a1 a2 : Value) : treeF cfg290 Go.Proofs.Tryz.f290 [a0, a1, a2] = t290 a0 a1 a2 := by kernel_rfl
theorem calls290 (a0 a1 a2 : Value) {H : Heap} {Q : Value → Heap → Prop} (h : wpH Go.Proofs.Tryz.prog (fun vs H' => Q (retVal vs) H') (t290 a0 a1 a2) (fun _ _ _ => False) H) : CallsH Go.Proofs.Tryz.prog 290 #[a0, a1, a2] H Q :=
  callsH_of_tree cfg290 mixed Go.Proofs.Tryz.func290 (by rw [tree290]; exact h)

/-- (*hostler/cell.Memory).Copy -/
def cfg114 : Cfg := ⟨tyInts, tyMaps, [], [], []⟩
def t114 (a0 : Value) : T := .pure (.bin .eql 63 (.tmp 3) (.const (.pointer none)) a0 (.pointer none)) fun v4 => .ite v4 (.ret [(.pointer none)]) (.pure (.nilChk a0) fun v6 =>
  .pure (.fieldA 202 v6 0) fun v7 => .look (.load 200 v7) fun v8 => .pure (.nilChk a0) fun v11 => .pure (.fieldA 202 v11 1) fun v12 => .look (.load 3 v12) fun v13 => .op [(.load 3
  v12, v13)] (.callv (.func (.func 185) #[] #[]) #[v8]) fun v9 => .pure (.build 202 #[(0, v9), (1, v13)]) fun v14 => .op [] (.box 202 v14) fun v15 => .ret [v15])
theorem tree114 (a0 : Value) : treeF cfg114 Go.Proofs.Tryz.f114 [a0] = t114 a0 := by kernel_rfl
theorem calls114 (a0 : Value) {H : Heap} {Q : Value → Heap → Prop} (h : wpH Go.Proofs.Tryz.prog (fun vs H' => Q (retVal vs) H') (t114 a0) (fun _ _ _ => False) H) : CallsH Go.Proofs.Tryz.prog 114 #[a0] H Q :=
  callsH_of_tree cfg114 mixed Go.Proofs.Tryz.func114 (by rw [tree114]; exact h)

/-- (*hostler/cell.Memory).Same -/
def cfg45 : Cfg := ⟨tyInts, tyMaps, [], [(1, [10])], []⟩
def t45 (a0 a1 : Value) : T := .join (.pure (.bin .eql 63 (.tmp 5) (.const (.pointer none)) a0 (.pointer none)) fun v6 => .ite v6 (.leaf none [(.bool true)]) (.pure (.bin .eql 63
  (.tmp 8) (.const (.pointer none)) a1 (.pointer none)) fun v9 => .leaf none [v9])) fun e s1 => onE e (.ite (sl s1 0) (.op [] (.callv (.func (.func 115) #[] #[]) #[a0]) fun v12 =>
  .op [] (.callv (.func (.func 115) #[] #[]) #[a1]) fun v14 => .pure (.bin .eql 3 (.tmp 12) (.tmp 14) v12 v14) fun v15 => .ret [v15]) (.pure (.nilChk a0) fun v17 => .pure (.fieldA
  202 v17 0) fun v18 => .look (.load 200 v18) fun v19 => .pure (.nilChk a1) fun v21 => .pure (.fieldA 202 v21 0) fun v22 => .look (.load 200 v22) fun v23 => .op [] (.callv (.func
  (.func 116) #[] #[]) #[v19, v23]) fun v24 => .ret [v24])) fun _ => .bad
theorem tree45 (a0 a1 : Value) : treeF cfg45 Go.Proofs.Tryz.f45 [a0, a1] = t45 a0 a1 := by kernel_rfl
theorem calls45 (a0 a1 : Value) {H : Heap} {Q : Value → Heap → Prop} (h : wpH Go.Proofs.Tryz.prog (fun vs H' => Q (retVal vs) H') (t45 a0 a1) (fun _ _ _ => False) H) : CallsH Go.Proofs.Tryz.prog 45 #[a0, a1] H Q :=
  callsH_of_tree cfg45 mixed Go.Proofs.Tryz.func45 (by rw [tree45]; exact h)

/-- (*hostler/cell.Memory).Count -/
def cfg46 : Cfg := ⟨tyInts, tyMaps, [], [], []⟩
def t46 (a0 : Value) : T := .pure (.bin .eql 63 (.tmp 3) (.const (.pointer none)) a0 (.pointer none)) fun v4 => .ite v4 (.ret [(.int .i64 0)]) (.pure (.nilChk a0) fun v6 => .pure
  (.fieldA 202 v6 1) fun v7 => .look (.load 3 v7) fun v8 => .ret [v8])
theorem tree46 (a0 : Value) : treeF cfg46 Go.Proofs.Tryz.f46 [a0] = t46 a0 := by kernel_rfl
theorem calls46 (a0 : Value) {H : Heap} {Q : Value → Heap → Prop} (h : wpH Go.Proofs.Tryz.prog (fun vs H' => Q (retVal vs) H') (t46 a0) (fun _ _ _ => False) H) : CallsH Go.Proofs.Tryz.prog 46 #[a0] H Q :=
  callsH_of_tree cfg46 mixed Go.Proofs.Tryz.func46 (by rw [tree46]; exact h)

/-- hostler/cell.New -/
def cfg155 : Cfg := ⟨tyInts, tyMaps, [], [], []⟩
def t155 (a0 : Value) : T := .pure (.builtin .max #[3, 3] 3 #[true, false] #[(.int .i64 0), a0]) fun v4 => .pure (.builtin .min #[3, 3] 3 #[false, true] #[v4, (.int .i64 65536)])
  fun v5 => .op [] (.mkSlice 200 v5 v5) fun v6 => .pure (.build 202 #[(0, v6)]) fun v7 => .op [] (.box 202 v7) fun v8 => .ret [v8]
theorem tree155 (a0 : Value) : treeF cfg155 Go.Proofs.Tryz.f155 [a0] = t155 a0 := by kernel_rfl
theorem calls155 (a0 : Value) {H : Heap} {Q : Value → Heap → Prop} (h : wpH Go.Proofs.Tryz.prog (fun vs H' => Q (retVal vs) H') (t155 a0) (fun _ _ _ => False) H) : CallsH Go.Proofs.Tryz.prog 155 #[a0] H Q :=
  callsH_of_tree cfg155 mixed Go.Proofs.Tryz.func155 (by rw [tree155]; exact h)

/-- (hostler/ticket.Lock).Take -/
def cfg269 : Cfg := ⟨tyInts, tyMaps, [], [], []⟩
def t269 (a0 a1 : Value) : T := .op [] (.box 94 a0) fun v2 => .pure (.fieldA 94 v2 0) fun v6 => .look (.load 3 v6) fun v7 => .op [] (.callv (.func (.func 240) #[] #[]) #[a1, v7,
  (.int .i64 1)]) fun v8 => .pure (.bin .sub 81 (.tmp 8) (.const (.int .u64 1)) v8 (.int .u64 1)) fun v9 => .ret [v9]
theorem tree269 (a0 a1 : Value) : treeF cfg269 Go.Proofs.Tryz.f269 [a0, a1] = t269 a0 a1 := by kernel_rfl
theorem calls269 (a0 a1 : Value) {H : Heap} {Q : Value → Heap → Prop} (h : wpH Go.Proofs.Tryz.prog (fun vs H' => Q (retVal vs) H') (t269 a0 a1) (fun _ _ _ => False) H) : CallsH Go.Proofs.Tryz.prog 269 #[a0, a1] H Q :=
  callsH_of_tree cfg269 mixed Go.Proofs.Tryz.func269 (by rw [tree269]; exact h)

/-- (hostler/ticket.Lock).Held -/
def cfg270 : Cfg := ⟨tyInts, tyMaps, [], [], []⟩
def t270 (a0 a1 a2 : Value) : T := .op [] (.box 94 a0) fun v3 => .look (.load 94 v3) fun v7 => .op [] (.callv (.func (.func 317) #[] #[]) #[v7, a1, a2]) fun v10 => .pure (.bin .eql
  81 (.tmp 10) (.const (.int .u64 0)) v10 (.int .u64 0)) fun v11 => .ret [v11]
theorem tree270 (a0 a1 a2 : Value) : treeF cfg270 Go.Proofs.Tryz.f270 [a0, a1, a2] = t270 a0 a1 a2 := by kernel_rfl
theorem calls270 (a0 a1 a2 : Value) {H : Heap} {Q : Value → Heap → Prop} (h : wpH Go.Proofs.Tryz.prog (fun vs H' => Q (retVal vs) H') (t270 a0 a1 a2) (fun _ _ _ => False) H) : CallsH Go.Proofs.Tryz.prog 270 #[a0, a1, a2] H Q :=
  callsH_of_tree cfg270 mixed Go.Proofs.Tryz.func270 (by rw [tree270]; exact h)

/-- (hostler/ticket.Lock).Free -/
def cfg271 : Cfg := ⟨tyInts, tyMaps, [], [(1, [6])], []⟩
def t271 (a0 a1 a2 : Value) : T := .op [] (.box 94 a0) fun v3 => .join (.look (.load 94 v3) fun v7 => .op [] (.callv (.func (.func 270) #[] #[]) #[v7, a1, a2]) fun v10 => .ite v10
  (.pure (.fieldA 94 v3 1) fun v13 => .look (.load 3 v13) fun v14 => .pure (.bin .add 81 (.tmp 15) (.const (.int .u64 1)) a2 (.int .u64 1)) fun v16 => .op [] (.callv (.func (.func
  290) #[] #[]) #[a1, v14, v16]) fun v17 => .leaf none [v17]) (.leaf none [(.bool false)])) fun e s1 => onE e (.ret [(sl s1 0)]) fun _ => .bad
theorem tree271 (a0 a1 a2 : Value) : treeF cfg271 Go.Proofs.Tryz.f271 [a0, a1, a2] = t271 a0 a1 a2 := by kernel_rfl
theorem calls271 (a0 a1 a2 : Value) {H : Heap} {Q : Value → Heap → Prop} (h : wpH Go.Proofs.Tryz.prog (fun vs H' => Q (retVal vs) H') (t271 a0 a1 a2) (fun _ _ _ => False) H) : CallsH Go.Proofs.Tryz.prog 271 #[a0, a1, a2] H Q :=
  callsH_of_tree cfg271 mixed Go.Proofs.Tryz.func271 (by rw [tree271]; exact h)

/-- (hostler/ticket.Lock).Ahead -/
def cfg317 : Cfg := ⟨tyInts, tyMaps, [], [], []⟩
def t317 (a0 a1 a2 : Value) : T := .op [] (.box 94 a0) fun v3 => .pure (.fieldA 94 v3 1) fun v9 => .look (.load 3 v9) fun v10 => .op [] (.callv (.func (.func 131) #[] #[]) #[a1,
  v10]) fun v11 => .pure (.bin .sub 81 (.tmp 7) (.tmp 11) a2 v11) fun v12 => .ret [v12]
theorem tree317 (a0 a1 a2 : Value) : treeF cfg317 Go.Proofs.Tryz.f317 [a0, a1, a2] = t317 a0 a1 a2 := by kernel_rfl
theorem calls317 (a0 a1 a2 : Value) {H : Heap} {Q : Value → Heap → Prop} (h : wpH Go.Proofs.Tryz.prog (fun vs H' => Q (retVal vs) H') (t317 a0 a1 a2) (fun _ _ _ => False) H) : CallsH Go.Proofs.Tryz.prog 317 #[a0, a1, a2] H Q :=
  callsH_of_tree cfg317 mixed Go.Proofs.Tryz.func317 (by rw [tree317]; exact h)

/-- hostler/note.Wake -/
def cfg179 : Cfg := ⟨tyInts, tyMaps, [], [], []⟩
def t179 (a0 a1 : Value) : T := .op [] (.callv (.func (.func 217) #[] #[]) #[a0, a1, (.int .u64 0), (.int .u64 1)]) fun v7 => .ret [v7]
theorem tree179 (a0 a1 : Value) : treeF cfg179 Go.Proofs.Tryz.f179 [a0, a1] = t179 a0 a1 := by kernel_rfl
theorem calls179 (a0 a1 : Value) {H : Heap} {Q : Value → Heap → Prop} (h : wpH Go.Proofs.Tryz.prog (fun vs H' => Q (retVal vs) H') (t179 a0 a1) (fun _ _ _ => False) H) : CallsH Go.Proofs.Tryz.prog 179 #[a0, a1] H Q :=
  callsH_of_tree cfg179 mixed Go.Proofs.Tryz.func179 (by rw [tree179]; exact h)

/-- (hostler/note.Sleeper).Step -/
def cfg231 : Cfg := ⟨tyInts, tyMaps, [], [], []⟩
def t231 (a0 a1 a2 : Value) : T := .op [] (.box 361 a0) fun v3 => .pure (.fieldA 361 v3 0) fun v9 => .look (.load 3 v9) fun v10 => .op [] (.callv (.func (.func 217) #[] #[]) #[a1,
  v10, (.int .u64 1), (.int .u64 0)]) fun v11 => .ite v11 (.ret [(.int .i64 1)]) (.look (.load 361 v3) fun v13 => .op [] (.callv (.func (.func 268) #[] #[]) #[v13, a2]) fun v15 =>
  .ite v15 (.ret [(.int .i64 2)]) (.ret [(.int .i64 0)]))
theorem tree231 (a0 a1 a2 : Value) : treeF cfg231 Go.Proofs.Tryz.f231 [a0, a1, a2] = t231 a0 a1 a2 := by kernel_rfl
theorem calls231 (a0 a1 a2 : Value) {H : Heap} {Q : Value → Heap → Prop} (h : wpH Go.Proofs.Tryz.prog (fun vs H' => Q (retVal vs) H') (t231 a0 a1 a2) (fun _ _ _ => False) H) : CallsH Go.Proofs.Tryz.prog 231 #[a0, a1, a2] H Q :=
  callsH_of_tree cfg231 mixed Go.Proofs.Tryz.func231 (by rw [tree231]; exact h)

/-- (hostler/note.Sleeper).Due -/
def cfg268 : Cfg := ⟨tyInts, tyMaps, [], [(1, [4])], []⟩
def t268 (a0 a1 : Value) : T := .op [] (.box 361 a0) fun v2 => .join (.pure (.fieldA 361 v2 1) fun v5 => .look (.load 2 v5) fun v6 => .pure (.bin .neq 2 (.tmp 6) (.const (.int .i64
  9223372036854775807)) v6 (.int .i64 9223372036854775807)) fun v7 => .ite v7 (.pure (.fieldA 361 v2 1) fun v10 => .look (.load 2 v10) fun v11 => .pure (.bin .geq 2 (.tmp 9) (.tmp
  11) a1 v11) fun v12 => .leaf none [v12]) (.leaf none [(.bool false)])) fun e s1 => onE e (.ret [(sl s1 0)]) fun _ => .bad
theorem tree268 (a0 a1 : Value) : treeF cfg268 Go.Proofs.Tryz.f268 [a0, a1] = t268 a0 a1 := by kernel_rfl
theorem calls268 (a0 a1 : Value) {H : Heap} {Q : Value → Heap → Prop} (h : wpH Go.Proofs.Tryz.prog (fun vs H' => Q (retVal vs) H') (t268 a0 a1) (fun _ _ _ => False) H) : CallsH Go.Proofs.Tryz.prog 268 #[a0, a1] H Q :=
  callsH_of_tree cfg268 mixed Go.Proofs.Tryz.func268 (by rw [tree268]; exact h)

/-- (*hostler/batch.Batch).Put -/
def cfg219 : Cfg := ⟨tyInts, tyMaps, [], [], []⟩
def t219 (a0 a1 : Value) : T := .pure (.nilChk a0) fun v6 => .pure (.fieldA 341 v6 0) fun v7 => .look (.load 33 v7) fun v8 => .op [] (.builtin .append #[33, 33] 33 #[false, false]
  #[v8, a1]) fun v10 => .pure (.nilChk a0) fun v11 => .pure (.fieldA 341 v11 0) fun v12 => .op [] (.store 33 v12 v10) fun _ => .ret []
theorem tree219 (a0 a1 : Value) : treeF cfg219 Go.Proofs.Tryz.f219 [a0, a1] = t219 a0 a1 := by kernel_rfl
theorem calls219 (a0 a1 : Value) {H : Heap} {Q : Value → Heap → Prop} (h : wpH Go.Proofs.Tryz.prog (fun vs H' => Q (retVal vs) H') (t219 a0 a1) (fun _ _ _ => False) H) : CallsH Go.Proofs.Tryz.prog 219 #[a0, a1] H Q :=
  callsH_of_tree cfg219 mixed Go.Proofs.Tryz.func219 (by rw [tree219]; exact h)

/-- (*hostler/batch.Batch).List -/
def cfg220 : Cfg := ⟨tyInts, tyMaps, [], [], []⟩
def t220 (a0 : Value) : T := .pure (.nilChk a0) fun v4 => .pure (.fieldA 341 v4 0) fun v5 => .look (.load 33 v5) fun v6 => .op [] (.callv (.func (.func 134) #[] #[]) #[v6]) fun v7
  => .ret [v7]
theorem tree220 (a0 : Value) : treeF cfg220 Go.Proofs.Tryz.f220 [a0] = t220 a0 := by kernel_rfl
theorem calls220 (a0 : Value) {H : Heap} {Q : Value → Heap → Prop} (h : wpH Go.Proofs.Tryz.prog (fun vs H' => Q (retVal vs) H') (t220 a0) (fun _ _ _ => False) H) : CallsH Go.Proofs.Tryz.prog 220 #[a0] H Q :=
  callsH_of_tree cfg220 mixed Go.Proofs.Tryz.func220 (by rw [tree220]; exact h)

/-- (*hostler/batch.Batch).Take -/
def cfg318 : Cfg := ⟨tyInts, tyMaps, [], [], []⟩
def t318 (a0 : Value) : T := .op [] (.callv (.func (.func 321) #[] #[]) #[a0, (.int .i64 1)]) fun v6 => .pure (.builtin .len #[33] 3 #[false] #[v6]) fun v8 => .pure (.bin .eql 3
  (.tmp 8) (.const (.int .i64 0)) v8 (.int .i64 0)) fun v9 => .ite v9 (.ret [(.int .i64 0), (.bool false)]) (.pure (.indexA 33 v6 (.int .i64 0)) fun v11 => .look (.load 3 v11) fun
  v12 => .ret [v12, (.bool true)])
theorem tree318 (a0 : Value) : treeF cfg318 Go.Proofs.Tryz.f318 [a0] = t318 a0 := by kernel_rfl
theorem calls318 (a0 : Value) {H : Heap} {Q : Value → Heap → Prop} (h : wpH Go.Proofs.Tryz.prog (fun vs H' => Q (retVal vs) H') (t318 a0) (fun _ _ _ => False) H) : CallsH Go.Proofs.Tryz.prog 318 #[a0] H Q :=
  callsH_of_tree cfg318 mixed Go.Proofs.Tryz.func318 (by rw [tree318]; exact h)

/-- (*hostler/batch.Batch).TakeMost -/
def cfg321 : Cfg := ⟨tyInts, tyMaps, [], [], []⟩
def t321 (a0 a1 : Value) : T := .pure (.builtin .max #[3, 3] 3 #[true, false] #[(.int .i64 0), a1]) fun v7 => .pure (.nilChk a0) fun v9 => .pure (.fieldA 341 v9 0) fun v10 => .look
  (.load 33 v10) fun v11 => .pure (.builtin .len #[33] 3 #[false] #[v11]) fun v12 => .pure (.builtin .min #[3, 3] 3 #[false, false] #[v7, v12]) fun v13 => .pure (.nilChk a0) fun
  v15 => .pure (.fieldA 341 v15 0) fun v16 => .look (.load 33 v16) fun v17 => .pure (.slice 33 v17 none (some v13) none) fun v19 => .op [] (.callv (.func (.func 134) #[] #[])
  #[v19]) fun v20 => .pure (.nilChk a0) fun v23 => .pure (.fieldA 341 v23 0) fun v24 => .look (.load 33 v24) fun v25 => .op [] (.callv (.func (.func 326) #[] #[]) #[v25, (.int .i64
  0), v13]) fun v27 => .pure (.nilChk a0) fun v28 => .pure (.fieldA 341 v28 0) fun v29 => .op [] (.store 33 v29 v27) fun _ => .ret [v20]
theorem tree321 (a0 a1 : Value) : treeF cfg321 Go.Proofs.Tryz.f321 [a0, a1] = t321 a0 a1 := by kernel_rfl
theorem calls321 (a0 a1 : Value) {H : Heap} {Q : Value → Heap → Prop} (h : wpH Go.Proofs.Tryz.prog (fun vs H' => Q (retVal vs) H') (t321 a0 a1) (fun _ _ _ => False) H) : CallsH Go.Proofs.Tryz.prog 321 #[a0, a1] H Q :=
  callsH_of_tree cfg321 mixed Go.Proofs.Tryz.func321 (by rw [tree321]; exact h)

/-- (*hostler/batch.Batch).Len -/
def cfg323 : Cfg := ⟨tyInts, tyMaps, [], [], []⟩
def t323 (a0 : Value) : T := .pure (.nilChk a0) fun v4 => .pure (.fieldA 341 v4 0) fun v5 => .look (.load 33 v5) fun v6 => .pure (.builtin .len #[33] 3 #[false] #[v6]) fun v7 =>
  .ret [v7]
theorem tree323 (a0 : Value) : treeF cfg323 Go.Proofs.Tryz.f323 [a0] = t323 a0 := by kernel_rfl
theorem calls323 (a0 : Value) {H : Heap} {Q : Value → Heap → Prop} (h : wpH Go.Proofs.Tryz.prog (fun vs H' => Q (retVal vs) H') (t323 a0) (fun _ _ _ => False) H) : CallsH Go.Proofs.Tryz.prog 323 #[a0] H Q :=
  callsH_of_tree cfg323 mixed Go.Proofs.Tryz.func323 (by rw [tree323]; exact h)

/-- hostler/ring.New -/
def cfg156 : Cfg := ⟨tyInts, tyMaps, [], [], []⟩
def t156 : T := .pure (.build 348 #[(4, (.int .i64 (-1)))]) fun v1 => .op [] (.box 348 v1) fun v2 => .ret [v2]
theorem tree156 : treeF cfg156 Go.Proofs.Tryz.f156 [] = t156  := by kernel_rfl
theorem calls156 {H : Heap} {Q : Value → Heap → Prop} (h : wpH Go.Proofs.Tryz.prog (fun vs H' => Q (retVal vs) H') (t156 ) (fun _ _ _ => False) H) : CallsH Go.Proofs.Tryz.prog 156 #[] H Q :=
  callsH_of_tree cfg156 mixed Go.Proofs.Tryz.func156 (by rw [tree156]; exact h)

/-- (*hostler/ring.Ring).List -/
def cfg164 : Cfg := ⟨tyInts, tyMaps, [], [], []⟩
def t164 (a0 : Value) : T := .op [] (.callv (.func (.func 222) #[] #[]) #[a0]) fun v6 => .pure (.nilChk v6) fun v9 => .pure (.fieldA 348 v9 2) fun v10 => .look (.load 3 v10) fun
  v11 => .op [] (.callv (.func (.func 223) #[] #[]) #[v6, v11]) fun v12 => .pure (.nilChk v6) fun v14 => .pure (.fieldA 348 v14 3) fun v15 => .look (.load 4 v15) fun v16 => .ite
  v16 (.pure (.nilChk v6) fun v19 => .pure (.fieldA 348 v19 4) fun v20 => .look (.load 3 v20) fun v21 => .op [] (.buildSlice 33 1 #[(0, v21)]) fun v22 => .op [] (.builtin .append
  #[33, 33] 33 #[false, false] #[v12, v22]) fun v23 => .ret [v23]) (.ret [v12])
theorem tree164 (a0 : Value) : treeF cfg164 Go.Proofs.Tryz.f164 [a0] = t164 a0 := by kernel_rfl
theorem calls164 (a0 : Value) {H : Heap} {Q : Value → Heap → Prop} (h : wpH Go.Proofs.Tryz.prog (fun vs H' => Q (retVal vs) H') (t164 a0) (fun _ _ _ => False) H) : CallsH Go.Proofs.Tryz.prog 164 #[a0] H Q :=
  callsH_of_tree cfg164 mixed Go.Proofs.Tryz.func164 (by rw [tree164]; exact h)

/-- (*hostler/ring.Ring).Copy -/
def cfg222 : Cfg := ⟨tyInts, tyMaps, [], [], []⟩
def t222 (a0 : Value) : T := .pure (.nilChk a0) fun v5 => .look (.load 348 v5) fun v6 => .op [] (.alloc 348) fun v3 => .op [] (.store 348 v3 v6) fun _ => .ret [v3]
theorem tree222 (a0 : Value) : treeF cfg222 Go.Proofs.Tryz.f222 [a0] = t222 a0 := by kernel_rfl
theorem calls222 (a0 : Value) {H : Heap} {Q : Value → Heap → Prop} (h : wpH Go.Proofs.Tryz.prog (fun vs H' => Q (retVal vs) H') (t222 a0) (fun _ _ _ => False) H) : CallsH Go.Proofs.Tryz.prog 222 #[a0] H Q :=
  callsH_of_tree cfg222 mixed Go.Proofs.Tryz.func222 (by rw [tree222]; exact h)

/-- (*hostler/ring.Ring).pop -/
def cfg223 : Cfg := ⟨tyInts, tyMaps, [], [], [(3, [5, 9])]⟩
def t223 (a0 a1 : Value) : T := .op [] (.mkSlice 33 (.int .i64 0) a1) fun v7 => .loop [v7, (.int .i64 0)] (fun s1 => .pure (.bin .lss 3 (.tmp 9) (.tmp 8) (sl s1 1) a1) fun v10 =>
  .ite v10 (.pure (.nilChk a0) fun v14 => .pure (.fieldA 348 v14 1) fun v15 => .look (.load 3 v15) fun v16 => .pure (.nilChk a0) fun v17 => .pure (.fieldA 348 v17 0) fun v18 =>
  .pure (.indexA 346 v18 v16) fun v19 => .look (.load 3 v19) fun v20 => .op [] (.buildSlice 33 1 #[(0, v20)]) fun v21 => .op [] (.builtin .append #[33, 33] 33 #[false, false] #[(sl
  s1 0), v21]) fun v22 => .pure (.nilChk a0) fun v25 => .pure (.fieldA 348 v25 1) fun v26 => .look (.load 3 v26) fun v27 => .pure (.bin .add 3 (.tmp 27) (.const (.int .i64 1)) v27
  (.int .i64 1)) fun v28 => .pure (.bin .rem 3 (.tmp 28) (.const (.int .i64 256)) v28 (.int .i64 256)) fun v29 => .pure (.nilChk a0) fun v30 => .pure (.fieldA 348 v30 1) fun v31 =>
  .op [] (.store 3 v31 v29) fun _ => .pure (.nilChk a0) fun v33 => .pure (.fieldA 348 v33 2) fun v34 => .look (.load 3 v34) fun v35 => .pure (.bin .sub 3 (.tmp 35) (.const (.int
  .i64 1)) v35 (.int .i64 1)) fun v36 => .pure (.nilChk a0) fun v37 => .pure (.fieldA 348 v37 2) fun v38 => .op [] (.store 3 v38 v36) fun _ => .pure (.bin .add 3 (.tmp 9) (.const
  (.int .i64 1)) (sl s1 1) (.int .i64 1)) fun v39 => .leaf none [v22, v39]) (.leaf (some 0) [(sl s1 0), (sl s1 1)])) (fun x s2 => (if Nat.beq x 0 then .ret [(sl s2 0)] else .bad))
theorem tree223 (a0 a1 : Value) : treeF cfg223 Go.Proofs.Tryz.f223 [a0, a1] = t223 a0 a1 := by kernel_rfl
theorem calls223 (a0 a1 : Value) {H : Heap} {Q : Value → Heap → Prop} (h : wpH Go.Proofs.Tryz.prog (fun vs H' => Q (retVal vs) H') (t223 a0 a1) (fun _ _ _ => False) H) : CallsH Go.Proofs.Tryz.prog 223 #[a0, a1] H Q :=
  callsH_of_tree cfg223 mixed Go.Proofs.Tryz.func223 (by rw [tree223]; exact h)

/-- (*hostler/ring.Ring).Get -/
def cfg274 : Cfg := ⟨tyInts, tyMaps, [], [(1, [5]), (4, [22])], []⟩
def t274 (a0 : Value) : T := .join (.pure (.nilChk a0) fun v7 => .pure (.fieldA 348 v7 3) fun v8 => .look (.load 4 v8) fun v9 => .ite v9 (.pure (.nilChk a0) fun v12 => .pure
  (.fieldA 348 v12 2) fun v13 => .look (.load 3 v13) fun v14 => .pure (.bin .eql 3 (.tmp 14) (.const (.int .i64 0)) v14 (.int .i64 0)) fun v15 => .leaf none [v15]) (.leaf none
  [(.bool false)])) fun e s1 => onE e (.ite (sl s1 0) (.pure (.nilChk a0) fun v18 => .pure (.fieldA 348 v18 5) fun v19 => .op [] (.store 3 v19 (.int .i64 0)) fun _ => .op []
  (.callv (.func (.func 319) #[] #[]) #[a0]) fun v21 => .ret [v21, (.bool true)]) (.join (.pure (.nilChk a0) fun v24 => .pure (.fieldA 348 v24 3) fun v25 => .look (.load 4 v25) fun
  v26 => .ite v26 (.pure (.nilChk a0) fun v29 => .pure (.fieldA 348 v29 5) fun v30 => .look (.load 3 v30) fun v31 => .pure (.bin .lss 3 (.tmp 31) (.const (.int .i64 4)) v31 (.int
  .i64 4)) fun v32 => .leaf none [v32]) (.leaf none [(.bool false)])) fun e s2 => onE e (.ite (sl s2 0) (.pure (.nilChk a0) fun v35 => .pure (.fieldA 348 v35 5) fun v36 => .look
  (.load 3 v36) fun v37 => .pure (.bin .add 3 (.tmp 37) (.const (.int .i64 1)) v37 (.int .i64 1)) fun v38 => .pure (.nilChk a0) fun v39 => .pure (.fieldA 348 v39 5) fun v40 => .op
  [] (.store 3 v40 v38) fun _ => .op [] (.callv (.func (.func 319) #[] #[]) #[a0]) fun v42 => .ret [v42, (.bool true)]) (.pure (.nilChk a0) fun v45 => .pure (.fieldA 348 v45 2) fun
  v46 => .look (.load 3 v46) fun v47 => .pure (.bin .eql 3 (.tmp 47) (.const (.int .i64 0)) v47 (.int .i64 0)) fun v48 => .ite v48 (.ret [(.int .i64 0), (.bool false)]) (.pure
  (.nilChk a0) fun v50 => .pure (.fieldA 348 v50 5) fun v51 => .op [] (.store 3 v51 (.int .i64 0)) fun _ => .op [] (.callv (.func (.func 223) #[] #[]) #[a0, (.int .i64 1)]) fun v53
  => .pure (.indexA 33 v53 (.int .i64 0)) fun v54 => .look (.load 3 v54) fun v55 => .pure (.nilChk a0) fun v57 => .pure (.fieldA 348 v57 3) fun v58 => .look (.load 4 v58) fun v59
  => .ite v59 (.op [] (.callv (.func (.func 319) #[] #[]) #[a0]) fun v62 => .op [] (.callv (.func (.func 320) #[] #[]) #[a0, v62]) fun _ => .ret [v55, (.bool true)]) (.ret [v55,
  (.bool true)])))) fun _ => .bad)) fun _ => .bad
theorem tree274 (a0 : Value) : treeF cfg274 Go.Proofs.Tryz.f274 [a0] = t274 a0 := by kernel_rfl
theorem calls274 (a0 : Value) {H : Heap} {Q : Value → Heap → Prop} (h : wpH Go.Proofs.Tryz.prog (fun vs H' => Q (retVal vs) H') (t274 a0) (fun _ _ _ => False) H) : CallsH Go.Proofs.Tryz.prog 274 #[a0] H Q :=
  callsH_of_tree cfg274 mixed Go.Proofs.Tryz.func274 (by rw [tree274]; exact h)

/-- (*hostler/ring.Ring).Steal -/
def cfg277 : Cfg := ⟨tyInts, tyMaps, [], [(1, [13])], []⟩
def t277 (a0 : Value) : T := .join (.pure (.nilChk a0) fun v4 => .pure (.fieldA 348 v4 2) fun v5 => .look (.load 3 v5) fun v6 => .pure (.bin .eql 3 (.tmp 6) (.const (.int .i64 0))
  v6 (.int .i64 0)) fun v7 => .ite v7 (.pure (.nilChk a0) fun v10 => .pure (.fieldA 348 v10 3) fun v11 => .look (.load 4 v11) fun v12 => .leaf none [v12]) (.leaf none [(.bool
  false)])) fun e s1 => onE e (.ite (sl s1 0) (.pure (.nilChk a0) fun v15 => .pure (.fieldA 348 v15 5) fun v16 => .op [] (.store 3 v16 (.int .i64 0)) fun _ => .op [] (.callv (.func
  (.func 319) #[] #[]) #[a0]) fun v18 => .op [] (.buildSlice 33 1 #[(0, v18)]) fun v19 => .ret [v19]) (.pure (.nilChk a0) fun v22 => .pure (.fieldA 348 v22 2) fun v23 => .look
  (.load 3 v23) fun v24 => .pure (.bin .add 3 (.tmp 24) (.const (.int .i64 1)) v24 (.int .i64 1)) fun v25 => .pure (.bin .quo 3 (.tmp 25) (.const (.int .i64 2)) v25 (.int .i64 2))
  fun v26 => .op [] (.callv (.func (.func 223) #[] #[]) #[a0, v26]) fun v27 => .ret [v27])) fun _ => .bad
theorem tree277 (a0 : Value) : treeF cfg277 Go.Proofs.Tryz.f277 [a0] = t277 a0 := by kernel_rfl
theorem calls277 (a0 : Value) {H : Heap} {Q : Value → Heap → Prop} (h : wpH Go.Proofs.Tryz.prog (fun vs H' => Q (retVal vs) H') (t277 a0) (fun _ _ _ => False) H) : CallsH Go.Proofs.Tryz.prog 277 #[a0] H Q :=
  callsH_of_tree cfg277 mixed Go.Proofs.Tryz.func277 (by rw [tree277]; exact h)

/-- (*hostler/ring.Ring).Len -/
def cfg278 : Cfg := ⟨tyInts, tyMaps, [], [], []⟩
def t278 (a0 : Value) : T := .pure (.nilChk a0) fun v4 => .pure (.fieldA 348 v4 3) fun v5 => .look (.load 4 v5) fun v6 => .ite v6 (.pure (.nilChk a0) fun v8 => .pure (.fieldA 348
  v8 2) fun v9 => .look (.load 3 v9) fun v10 => .pure (.bin .add 3 (.tmp 10) (.const (.int .i64 1)) v10 (.int .i64 1)) fun v11 => .ret [v11]) (.pure (.nilChk a0) fun v13 => .pure
  (.fieldA 348 v13 2) fun v14 => .look (.load 3 v14) fun v15 => .ret [v15])
theorem tree278 (a0 : Value) : treeF cfg278 Go.Proofs.Tryz.f278 [a0] = t278 a0 := by kernel_rfl
theorem calls278 (a0 : Value) {H : Heap} {Q : Value → Heap → Prop} (h : wpH Go.Proofs.Tryz.prog (fun vs H' => Q (retVal vs) H') (t278 a0) (fun _ _ _ => False) H) : CallsH Go.Proofs.Tryz.prog 278 #[a0] H Q :=
  callsH_of_tree cfg278 mixed Go.Proofs.Tryz.func278 (by rw [tree278]; exact h)

/-- (*hostler/ring.Ring).PutAll -/
def cfg283 : Cfg := ⟨tyInts, tyMaps, [], [], [(3, [20])]⟩
def t283 (a0 a1 : Value) : T := .pure (.builtin .len #[33] 3 #[false] #[a1]) fun v9 => .pure (.nilChk a0) fun v11 => .pure (.fieldA 348 v11 2) fun v12 => .look (.load 3 v12) fun
  v13 => .pure (.bin .sub 3 (.const (.int .i64 256)) (.tmp 13) (.int .i64 256) v13) fun v14 => .pure (.builtin .min #[3, 3] 3 #[false, false] #[v9, v14]) fun v15 => .pure (.slice
  33 a1 none (some v15) none) fun v18 => .pure (.builtin .len #[33] 3 #[false] #[v18]) fun v19 => .loop [(.int .i64 0)] (fun s1 => .pure (.bin .lss 3 (.tmp 20) (.tmp 19) (sl s1 0)
  v19) fun v21 => .ite v21 (.pure (.indexA 33 v18 (sl s1 0)) fun v22 => .look (.load 3 v22) fun v23 => .op [] (.callv (.func (.func 320) #[] #[]) #[a0, v23]) fun _ => .pure (.bin
  .add 3 (.tmp 20) (.const (.int .i64 1)) (sl s1 0) (.int .i64 1)) fun v27 => .leaf none [v27]) (.leaf (some 0) [(sl s1 0)])) (fun x _ => (if Nat.beq x 0 then .pure (.slice 33 a1
  (some v15) none none) fun v30 => .op [] (.callv (.func (.func 134) #[] #[]) #[v30]) fun v31 => .ret [v31] else .bad))
theorem tree283 (a0 a1 : Value) : treeF cfg283 Go.Proofs.Tryz.f283 [a0, a1] = t283 a0 a1 := by kernel_rfl
theorem calls283 (a0 a1 : Value) {H : Heap} {Q : Value → Heap → Prop} (h : wpH Go.Proofs.Tryz.prog (fun vs H' => Q (retVal vs) H') (t283 a0 a1) (fun _ _ _ => False) H) : CallsH Go.Proofs.Tryz.prog 283 #[a0, a1] H Q :=
  callsH_of_tree cfg283 mixed Go.Proofs.Tryz.func283 (by rw [tree283]; exact h)

/-- (*hostler/ring.Ring).Ready -/
def cfg284 : Cfg := ⟨tyInts, tyMaps, [], [], []⟩
def t284 (a0 a1 : Value) : T := .op [] (.callv (.func (.func 327) #[] #[]) #[a0]) fun v9 => .pure (.extract v9 0) fun v10 => .pure (.extract v9 1) fun v11 => .pure (.nilChk a0) fun
  v15 => .pure (.fieldA 348 v15 4) fun v16 => .op [] (.store 3 v16 a1) fun _ => .pure (.nilChk a0) fun v17 => .pure (.fieldA 348 v17 3) fun v18 => .op [] (.store 4 v18 (.bool
  true)) fun _ => .pure (.un .not v11) fun v20 => .ite v20 (.ret [(.slice none 0 0)]) (.op [] (.callv (.func (.func 328) #[] #[]) #[a0, v10]) fun v23 => .ret [v23])
theorem tree284 (a0 a1 : Value) : treeF cfg284 Go.Proofs.Tryz.f284 [a0, a1] = t284 a0 a1 := by kernel_rfl
theorem calls284 (a0 a1 : Value) {H : Heap} {Q : Value → Heap → Prop} (h : wpH Go.Proofs.Tryz.prog (fun vs H' => Q (retVal vs) H') (t284 a0 a1) (fun _ _ _ => False) H) : CallsH Go.Proofs.Tryz.prog 284 #[a0, a1] H Q :=
  callsH_of_tree cfg284 mixed Go.Proofs.Tryz.func284 (by rw [tree284]; exact h)

/-- (*hostler/ring.Ring).take -/
def cfg319 : Cfg := ⟨tyInts, tyMaps, [], [], []⟩
def t319 (a0 : Value) : T := .pure (.nilChk a0) fun v4 => .pure (.fieldA 348 v4 3) fun v5 => .op [] (.store 4 v5 (.bool false)) fun _ => .pure (.nilChk a0) fun v7 => .pure (.fieldA
  348 v7 4) fun v8 => .look (.load 3 v8) fun v9 => .ret [v9]
theorem tree319 (a0 : Value) : treeF cfg319 Go.Proofs.Tryz.f319 [a0] = t319 a0 := by kernel_rfl
theorem calls319 (a0 : Value) {H : Heap} {Q : Value → Heap → Prop} (h : wpH Go.Proofs.Tryz.prog (fun vs H' => Q (retVal vs) H') (t319 a0) (fun _ _ _ => False) H) : CallsH Go.Proofs.Tryz.prog 319 #[a0] H Q :=
  callsH_of_tree cfg319 mixed Go.Proofs.Tryz.func319 (by rw [tree319]; exact h)

/-- (*hostler/ring.Ring).push -/
def cfg320 : Cfg := ⟨tyInts, tyMaps, [], [], []⟩
def t320 (a0 a1 : Value) : T := .pure (.nilChk a0) fun v6 => .pure (.fieldA 348 v6 1) fun v7 => .look (.load 3 v7) fun v8 => .pure (.nilChk a0) fun v10 => .pure (.fieldA 348 v10 2)
  fun v11 => .look (.load 3 v11) fun v12 => .pure (.bin .add 3 (.tmp 8) (.tmp 12) v8 v12) fun v13 => .pure (.bin .rem 3 (.tmp 13) (.const (.int .i64 256)) v13 (.int .i64 256)) fun
  v14 => .pure (.nilChk a0) fun v16 => .pure (.fieldA 348 v16 0) fun v17 => .pure (.indexA 346 v17 v14) fun v18 => .op [] (.store 3 v18 a1) fun _ => .pure (.nilChk a0) fun v20 =>
  .pure (.fieldA 348 v20 2) fun v21 => .look (.load 3 v21) fun v22 => .pure (.bin .add 3 (.tmp 22) (.const (.int .i64 1)) v22 (.int .i64 1)) fun v23 => .pure (.nilChk a0) fun v24
  => .pure (.fieldA 348 v24 2) fun v25 => .op [] (.store 3 v25 v23) fun _ => .ret []
theorem tree320 (a0 a1 : Value) : treeF cfg320 Go.Proofs.Tryz.f320 [a0, a1] = t320 a0 a1 := by kernel_rfl
theorem calls320 (a0 a1 : Value) {H : Heap} {Q : Value → Heap → Prop} (h : wpH Go.Proofs.Tryz.prog (fun vs H' => Q (retVal vs) H') (t320 a0 a1) (fun _ _ _ => False) H) : CallsH Go.Proofs.Tryz.prog 320 #[a0, a1] H Q :=
  callsH_of_tree cfg320 mixed Go.Proofs.Tryz.func320 (by rw [tree320]; exact h)

/-- (*hostler/ring.Ring).Next -/
def cfg327 : Cfg := ⟨tyInts, tyMaps, [], [], []⟩
def t327 (a0 : Value) : T := .pure (.nilChk a0) fun v5 => .pure (.fieldA 348 v5 3) fun v6 => .look (.load 4 v6) fun v7 => .pure (.un .not v7) fun v8 => .ite v8 (.ret [(.int .i64
  0), (.bool false)]) (.pure (.nilChk a0) fun v10 => .pure (.fieldA 348 v10 4) fun v11 => .look (.load 3 v11) fun v12 => .ret [v12, (.bool true)])
theorem tree327 (a0 : Value) : treeF cfg327 Go.Proofs.Tryz.f327 [a0] = t327 a0 := by kernel_rfl
theorem calls327 (a0 : Value) {H : Heap} {Q : Value → Heap → Prop} (h : wpH Go.Proofs.Tryz.prog (fun vs H' => Q (retVal vs) H') (t327 a0) (fun _ _ _ => False) H) : CallsH Go.Proofs.Tryz.prog 327 #[a0] H Q :=
  callsH_of_tree cfg327 mixed Go.Proofs.Tryz.func327 (by rw [tree327]; exact h)

/-- (*hostler/ring.Ring).Put -/
def cfg328 : Cfg := ⟨tyInts, tyMaps, [], [], []⟩
def t328 (a0 a1 : Value) : T := .pure (.nilChk a0) fun v6 => .pure (.fieldA 348 v6 2) fun v7 => .look (.load 3 v7) fun v8 => .pure (.bin .eql 3 (.tmp 8) (.const (.int .i64 256)) v8
  (.int .i64 256)) fun v9 => .ite v9 (.op [] (.callv (.func (.func 223) #[] #[]) #[a0, (.int .i64 128)]) fun v11 => .op [] (.buildSlice 33 1 #[(0, a1)]) fun v13 => .op [] (.builtin
  .append #[33, 33] 33 #[false, false] #[v11, v13]) fun v14 => .ret [v14]) (.op [] (.callv (.func (.func 320) #[] #[]) #[a0, a1]) fun _ => .ret [(.slice none 0 0)])
theorem tree328 (a0 a1 : Value) : treeF cfg328 Go.Proofs.Tryz.f328 [a0, a1] = t328 a0 a1 := by kernel_rfl
theorem calls328 (a0 a1 : Value) {H : Heap} {Q : Value → Heap → Prop} (h : wpH Go.Proofs.Tryz.prog (fun vs H' => Q (retVal vs) H') (t328 a0 a1) (fun _ _ _ => False) H) : CallsH Go.Proofs.Tryz.prog 328 #[a0, a1] H Q :=
  callsH_of_tree cfg328 mixed Go.Proofs.Tryz.func328 (by rw [tree328]; exact h)

/-- hostler/global.New -/
def cfg152 : Cfg := ⟨tyInts, tyMaps, [], [], []⟩
def t152 (a0 : Value) : T := .pure (.builtin .max #[3, 3] 3 #[true, false] #[(.int .i64 1), a0]) fun v4 => .pure (.builtin .min #[3, 3] 3 #[false, true] #[v4, (.int .i64 64)]) fun
  v5 => .pure (.build 343 #[(1, v5)]) fun v6 => .op [] (.box 343 v6) fun v7 => .ret [v7]
theorem tree152 (a0 : Value) : treeF cfg152 Go.Proofs.Tryz.f152 [a0] = t152 a0 := by kernel_rfl
theorem calls152 (a0 : Value) {H : Heap} {Q : Value → Heap → Prop} (h : wpH Go.Proofs.Tryz.prog (fun vs H' => Q (retVal vs) H') (t152 a0) (fun _ _ _ => False) H) : CallsH Go.Proofs.Tryz.prog 152 #[a0] H Q :=
  callsH_of_tree cfg152 mixed Go.Proofs.Tryz.func152 (by rw [tree152]; exact h)

/-- (*hostler/global.Queue).Put -/
def cfg161 : Cfg := ⟨tyInts, tyMaps, [], [], []⟩
def t161 (a0 a1 : Value) : T := .pure (.nilChk a0) fun v5 => .pure (.fieldA 343 v5 0) fun v6 => .op [] (.callv (.func (.func 219) #[] #[]) #[v6, a1]) fun _ => .ret []
theorem tree161 (a0 a1 : Value) : treeF cfg161 Go.Proofs.Tryz.f161 [a0, a1] = t161 a0 a1 := by kernel_rfl
theorem calls161 (a0 a1 : Value) {H : Heap} {Q : Value → Heap → Prop} (h : wpH Go.Proofs.Tryz.prog (fun vs H' => Q (retVal vs) H') (t161 a0 a1) (fun _ _ _ => False) H) : CallsH Go.Proofs.Tryz.prog 161 #[a0, a1] H Q :=
  callsH_of_tree cfg161 mixed Go.Proofs.Tryz.func161 (by rw [tree161]; exact h)

/-- (*hostler/global.Queue).List -/
def cfg162 : Cfg := ⟨tyInts, tyMaps, [], [], []⟩
def t162 (a0 : Value) : T := .pure (.nilChk a0) fun v4 => .pure (.fieldA 343 v4 0) fun v5 => .op [] (.callv (.func (.func 220) #[] #[]) #[v5]) fun v6 => .ret [v6]
theorem tree162 (a0 : Value) : treeF cfg162 Go.Proofs.Tryz.f162 [a0] = t162 a0 := by kernel_rfl
theorem calls162 (a0 : Value) {H : Heap} {Q : Value → Heap → Prop} (h : wpH Go.Proofs.Tryz.prog (fun vs H' => Q (retVal vs) H') (t162 a0) (fun _ _ _ => False) H) : CallsH Go.Proofs.Tryz.prog 162 #[a0] H Q :=
  callsH_of_tree cfg162 mixed Go.Proofs.Tryz.func162 (by rw [tree162]; exact h)

/-- (*hostler/global.Queue).One -/
def cfg272 : Cfg := ⟨tyInts, tyMaps, [], [], []⟩
def t272 (a0 : Value) : T := .pure (.nilChk a0) fun v5 => .pure (.fieldA 343 v5 0) fun v6 => .op [] (.callv (.func (.func 318) #[] #[]) #[v6]) fun v7 => .pure (.extract v7 0) fun
  v8 => .pure (.extract v7 1) fun v9 => .ret [v8, v9]
theorem tree272 (a0 : Value) : treeF cfg272 Go.Proofs.Tryz.f272 [a0] = t272 a0 := by kernel_rfl
theorem calls272 (a0 : Value) {H : Heap} {Q : Value → Heap → Prop} (h : wpH Go.Proofs.Tryz.prog (fun vs H' => Q (retVal vs) H') (t272 a0) (fun _ _ _ => False) H) : CallsH Go.Proofs.Tryz.prog 272 #[a0] H Q :=
  callsH_of_tree cfg272 mixed Go.Proofs.Tryz.func272 (by rw [tree272]; exact h)

/-- (*hostler/global.Queue).Take -/
def cfg276 : Cfg := ⟨tyInts, tyMaps, [], [], []⟩
def t276 (a0 : Value) : T := .pure (.nilChk a0) fun v4 => .pure (.fieldA 343 v4 0) fun v5 => .op [] (.callv (.func (.func 322) #[] #[]) #[a0]) fun v7 => .op [] (.callv (.func
  (.func 321) #[] #[]) #[v5, v7]) fun v8 => .ret [v8]
theorem tree276 (a0 : Value) : treeF cfg276 Go.Proofs.Tryz.f276 [a0] = t276 a0 := by kernel_rfl
theorem calls276 (a0 : Value) {H : Heap} {Q : Value → Heap → Prop} (h : wpH Go.Proofs.Tryz.prog (fun vs H' => Q (retVal vs) H') (t276 a0) (fun _ _ _ => False) H) : CallsH Go.Proofs.Tryz.prog 276 #[a0] H Q :=
  callsH_of_tree cfg276 mixed Go.Proofs.Tryz.func276 (by rw [tree276]; exact h)

/-- (*hostler/global.Queue).Len -/
def cfg279 : Cfg := ⟨tyInts, tyMaps, [], [], []⟩
def t279 (a0 : Value) : T := .pure (.nilChk a0) fun v4 => .pure (.fieldA 343 v4 0) fun v5 => .op [] (.callv (.func (.func 323) #[] #[]) #[v5]) fun v6 => .ret [v6]
theorem tree279 (a0 : Value) : treeF cfg279 Go.Proofs.Tryz.f279 [a0] = t279 a0 := by kernel_rfl
theorem calls279 (a0 : Value) {H : Heap} {Q : Value → Heap → Prop} (h : wpH Go.Proofs.Tryz.prog (fun vs H' => Q (retVal vs) H') (t279 a0) (fun _ _ _ => False) H) : CallsH Go.Proofs.Tryz.prog 279 #[a0] H Q :=
  callsH_of_tree cfg279 mixed Go.Proofs.Tryz.func279 (by rw [tree279]; exact h)

/-- (*hostler/global.Queue).Share -/
def cfg322 : Cfg := ⟨tyInts, tyMaps, [], [], []⟩
def t322 (a0 : Value) : T := .pure (.nilChk a0) fun v6 => .pure (.fieldA 343 v6 1) fun v7 => .look (.load 3 v7) fun v8 => .op [(.load 3 v7, v8)] (.callv (.func (.func 279) #[] #[])
  #[a0]) fun v4 => .pure (.bin .quo 3 (.tmp 4) (.tmp 8) v4 v8) fun v9 => .pure (.bin .add 3 (.tmp 9) (.const (.int .i64 1)) v9 (.int .i64 1)) fun v10 => .op [(.load 3 v7, v8)]
  (.callv (.func (.func 279) #[] #[]) #[a0]) fun v12 => .pure (.builtin .min #[3, 3, 3] 3 #[false, false, true] #[v10, v12, (.int .i64 128)]) fun v13 => .ret [v13]
theorem tree322 (a0 : Value) : treeF cfg322 Go.Proofs.Tryz.f322 [a0] = t322 a0 := by kernel_rfl
theorem calls322 (a0 : Value) {H : Heap} {Q : Value → Heap → Prop} (h : wpH Go.Proofs.Tryz.prog (fun vs H' => Q (retVal vs) H') (t322 a0) (fun _ _ _ => False) H) : CallsH Go.Proofs.Tryz.prog 322 #[a0] H Q :=
  callsH_of_tree cfg322 mixed Go.Proofs.Tryz.func322 (by rw [tree322]; exact h)

/-- (*hostler/clock.Clock).Now -/
def cfg147 : Cfg := ⟨tyInts, tyMaps, [], [], []⟩
def t147 (a0 : Value) : T := .pure (.nilChk a0) fun v4 => .pure (.fieldA 234 v4 0) fun v5 => .look (.load 2 v5) fun v6 => .ret [v6]
theorem tree147 (a0 : Value) : treeF cfg147 Go.Proofs.Tryz.f147 [a0] = t147 a0 := by kernel_rfl
theorem calls147 (a0 : Value) {H : Heap} {Q : Value → Heap → Prop} (h : wpH Go.Proofs.Tryz.prog (fun vs H' => Q (retVal vs) H') (t147 a0) (fun _ _ _ => False) H) : CallsH Go.Proofs.Tryz.prog 147 #[a0] H Q :=
  callsH_of_tree cfg147 mixed Go.Proofs.Tryz.func147 (by rw [tree147]; exact h)

/-- (*hostler/clock.Clock).Tick -/
def cfg180 : Cfg := ⟨tyInts, tyMaps, [], [], []⟩
def t180 (a0 a1 : Value) : T := .op [] (.callv (.func (.func 245) #[] #[]) #[a0, a1]) fun v8 => .pure (.nilChk a0) fun v9 => .pure (.fieldA 234 v9 0) fun v10 => .op [] (.store 2
  v10 v8) fun _ => .pure (.nilChk a0) fun v12 => .pure (.fieldA 234 v12 0) fun v13 => .look (.load 2 v13) fun v14 => .ret [v14]
theorem tree180 (a0 a1 : Value) : treeF cfg180 Go.Proofs.Tryz.f180 [a0, a1] = t180 a0 a1 := by kernel_rfl
theorem calls180 (a0 a1 : Value) {H : Heap} {Q : Value → Heap → Prop} (h : wpH Go.Proofs.Tryz.prog (fun vs H' => Q (retVal vs) H') (t180 a0 a1) (fun _ _ _ => False) H) : CallsH Go.Proofs.Tryz.prog 180 #[a0, a1] H Q :=
  callsH_of_tree cfg180 mixed Go.Proofs.Tryz.func180 (by rw [tree180]; exact h)

/-- (*hostler/clock.Clock).After -/
def cfg245 : Cfg := ⟨tyInts, tyMaps, [], [], []⟩
def t245 (a0 a1 : Value) : T := .pure (.nilChk a0) fun v6 => .pure (.fieldA 234 v6 0) fun v7 => .look (.load 2 v7) fun v8 => .pure (.builtin .max #[2, 2] 2 #[true, false] #[(.int
  .i64 0), a1]) fun v10 => .op [] (.callv (.func (.func 291) #[] #[]) #[v8, v10]) fun v11 => .ret [v11]
theorem tree245 (a0 a1 : Value) : treeF cfg245 Go.Proofs.Tryz.f245 [a0, a1] = t245 a0 a1 := by kernel_rfl
theorem calls245 (a0 a1 : Value) {H : Heap} {Q : Value → Heap → Prop} (h : wpH Go.Proofs.Tryz.prog (fun vs H' => Q (retVal vs) H') (t245 a0 a1) (fun _ _ _ => False) H) : CallsH Go.Proofs.Tryz.prog 245 #[a0, a1] H Q :=
  callsH_of_tree cfg245 mixed Go.Proofs.Tryz.func245 (by rw [tree245]; exact h)

/-- hostler/clock.Sum -/
def cfg291 : Cfg := ⟨tyInts, tyMaps, [], [(2, [9]), (4, [17])], []⟩
def t291 (a0 a1 : Value) : T := .pure (.bin .add 2 (.tmp 6) (.tmp 7) a0 a1) fun v8 => .join (.pure (.bin .gtr 2 (.tmp 10) (.const (.int .i64 0)) a1 (.int .i64 0)) fun v11 => .ite
  v11 (.pure (.bin .lss 2 (.tmp 13) (.tmp 14) v8 a0) fun v15 => .leaf none [v15]) (.leaf none [(.bool false)])) fun e s1 => onE e (.ite (sl s1 0) (.ret [(.int .i64
  9223372036854775807)]) (.join (.pure (.bin .lss 2 (.tmp 18) (.const (.int .i64 0)) a1 (.int .i64 0)) fun v19 => .ite v19 (.pure (.bin .gtr 2 (.tmp 21) (.tmp 22) v8 a0) fun v23 =>
  .leaf none [v23]) (.leaf none [(.bool false)])) fun e s2 => onE e (.ite (sl s2 0) (.ret [(.int .i64 (-9223372036854775808))]) (.ret [v8])) fun _ => .bad)) fun _ => .bad
theorem tree291 (a0 a1 : Value) : treeF cfg291 Go.Proofs.Tryz.f291 [a0, a1] = t291 a0 a1 := by kernel_rfl
theorem calls291 (a0 a1 : Value) {H : Heap} {Q : Value → Heap → Prop} (h : wpH Go.Proofs.Tryz.prog (fun vs H' => Q (retVal vs) H') (t291 a0 a1) (fun _ _ _ => False) H) : CallsH Go.Proofs.Tryz.prog 291 #[a0, a1] H Q :=
  callsH_of_tree cfg291 mixed Go.Proofs.Tryz.func291 (by rw [tree291]; exact h)

/-- (*hostler/idle.Idle).HasP -/
def cfg89 : Cfg := ⟨tyInts, tyMaps, [], [], []⟩
def t89 (a0 a1 : Value) : T := .pure (.nilChk a0) fun v6 => .pure (.fieldA 259 v6 0) fun v7 => .look (.load 257 v7) fun v8 => .op [] (.callv (.func (.func 150) #[] #[]) #[v8, a1])
  fun v10 => .ret [v10]
theorem tree89 (a0 a1 : Value) : treeF cfg89 Go.Proofs.Tryz.f89 [a0, a1] = t89 a0 a1 := by kernel_rfl
theorem calls89 (a0 a1 : Value) {H : Heap} {Q : Value → Heap → Prop} (h : wpH Go.Proofs.Tryz.prog (fun vs H' => Q (retVal vs) H') (t89 a0 a1) (fun _ _ _ => False) H) : CallsH Go.Proofs.Tryz.prog 89 #[a0, a1] H Q :=
  callsH_of_tree cfg89 mixed Go.Proofs.Tryz.func89 (by rw [tree89]; exact h)

/-- (*hostler/idle.Idle).CountM -/
def cfg93 : Cfg := ⟨tyInts, tyMaps, [], [], []⟩
def t93 (a0 : Value) : T := .pure (.nilChk a0) fun v4 => .pure (.fieldA 259 v4 2) fun v5 => .look (.load 33 v5) fun v6 => .pure (.builtin .len #[33] 3 #[false] #[v6]) fun v7 =>
  .ret [v7]
theorem tree93 (a0 : Value) : treeF cfg93 Go.Proofs.Tryz.f93 [a0] = t93 a0 := by kernel_rfl
theorem calls93 (a0 : Value) {H : Heap} {Q : Value → Heap → Prop} (h : wpH Go.Proofs.Tryz.prog (fun vs H' => Q (retVal vs) H') (t93 a0) (fun _ _ _ => False) H) : CallsH Go.Proofs.Tryz.prog 93 #[a0] H Q :=
  callsH_of_tree cfg93 mixed Go.Proofs.Tryz.func93 (by rw [tree93]; exact h)

/-- (*hostler/idle.Idle).Poller -/
def cfg94 : Cfg := ⟨tyInts, tyMaps, [], [], []⟩
def t94 (a0 : Value) : T := .pure (.nilChk a0) fun v5 => .pure (.fieldA 259 v5 3) fun v6 => .look (.load 3 v6) fun v7 => .pure (.builtin .max #[3, 3] 3 #[true, false] #[(.int .i64
  0), v7]) fun v8 => .pure (.nilChk a0) fun v10 => .pure (.fieldA 259 v10 3) fun v11 => .look (.load 3 v11) fun v12 => .pure (.bin .neq 3 (.tmp 12) (.const (.int .i64 (-1))) v12
  (.int .i64 (-1))) fun v13 => .ret [v8, v13]
theorem tree94 (a0 : Value) : treeF cfg94 Go.Proofs.Tryz.f94 [a0] = t94 a0 := by kernel_rfl
theorem calls94 (a0 : Value) {H : Heap} {Q : Value → Heap → Prop} (h : wpH Go.Proofs.Tryz.prog (fun vs H' => Q (retVal vs) H') (t94 a0) (fun _ _ _ => False) H) : CallsH Go.Proofs.Tryz.prog 94 #[a0] H Q :=
  callsH_of_tree cfg94 mixed Go.Proofs.Tryz.func94 (by rw [tree94]; exact h)

/-- (*hostler/idle.Idle).CountP -/
def cfg95 : Cfg := ⟨tyInts, tyMaps, [], [], []⟩
def t95 (a0 : Value) : T := .pure (.nilChk a0) fun v4 => .pure (.fieldA 259 v4 0) fun v5 => .look (.load 257 v5) fun v6 => .op [] (.callv (.func (.func 163) #[] #[]) #[v6]) fun v7
  => .ret [v7]
theorem tree95 (a0 : Value) : treeF cfg95 Go.Proofs.Tryz.f95 [a0] = t95 a0 := by kernel_rfl
theorem calls95 (a0 : Value) {H : Heap} {Q : Value → Heap → Prop} (h : wpH Go.Proofs.Tryz.prog (fun vs H' => Q (retVal vs) H') (t95 a0) (fun _ _ _ => False) H) : CallsH Go.Proofs.Tryz.prog 95 #[a0] H Q :=
  callsH_of_tree cfg95 mixed Go.Proofs.Tryz.func95 (by rw [tree95]; exact h)

/-- (*hostler/idle.Idle).Copy -/
def cfg148 : Cfg := ⟨tyInts, tyMaps, [], [], []⟩
def t148 (a0 : Value) : T := .pure (.nilChk a0) fun v4 => .pure (.fieldA 259 v4 0) fun v5 => .look (.load 257 v5) fun v6 => .pure (.nilChk a0) fun v9 => .pure (.fieldA 259 v9 1)
  fun v10 => .look (.load 33 v10) fun v11 => .pure (.nilChk a0) fun v14 => .pure (.fieldA 259 v14 2) fun v15 => .look (.load 33 v15) fun v16 => .pure (.nilChk a0) fun v19 => .pure
  (.fieldA 259 v19 3) fun v20 => .look (.load 3 v20) fun v21 => .pure (.nilChk a0) fun v23 => .pure (.fieldA 259 v23 4) fun v24 => .look (.load 3 v24) fun v25 => .op [(.load 3 v24,
  v25), (.load 3 v20, v21), (.load 33 v15, v16), (.load 33 v10, v11)] (.callv (.func (.func 211) #[] #[]) #[v6]) fun v7 => .op [(.load 3 v24, v25), (.load 3 v20, v21), (.load 33
  v15, v16)] (.callv (.func (.func 134) #[] #[]) #[v11]) fun v12 => .op [(.load 3 v24, v25), (.load 3 v20, v21)] (.callv (.func (.func 134) #[] #[]) #[v16]) fun v17 => .pure
  (.build 259 #[(0, v7), (1, v12), (2, v17), (3, v21), (4, v25)]) fun v26 => .op [] (.box 259 v26) fun v27 => .ret [v27]
theorem tree148 (a0 : Value) : treeF cfg148 Go.Proofs.Tryz.f148 [a0] = t148 a0 := by kernel_rfl
theorem calls148 (a0 : Value) {H : Heap} {Q : Value → Heap → Prop} (h : wpH Go.Proofs.Tryz.prog (fun vs H' => Q (retVal vs) H') (t148 a0) (fun _ _ _ => False) H) : CallsH Go.Proofs.Tryz.prog 148 #[a0] H Q :=
  callsH_of_tree cfg148 mixed Go.Proofs.Tryz.func148 (by rw [tree148]; exact h)

/-- hostler/idle.New -/
def cfg154 : Cfg := ⟨tyInts, tyMaps, [], [], []⟩
def t154 (a0 a1 : Value) : T := .pure (.builtin .max #[3, 3] 3 #[true, false] #[(.int .i64 1), a0]) fun v6 => .pure (.builtin .min #[3, 3] 3 #[false, true] #[v6, (.int .i64 64)])
  fun v7 => .op [] (.callv (.func (.func 214) #[] #[]) #[v7]) fun v8 => .pure (.builtin .max #[3, 3] 3 #[true, false] #[(.int .i64 1), a1]) fun v10 => .pure (.builtin .min #[3, 3]
  3 #[false, true] #[v10, (.int .i64 128)]) fun v11 => .pure (.build 259 #[(0, v8), (3, (.int .i64 (-1))), (4, v11)]) fun v12 => .op [] (.box 259 v12) fun v13 => .ret [v13]
theorem tree154 (a0 a1 : Value) : treeF cfg154 Go.Proofs.Tryz.f154 [a0, a1] = t154 a0 a1 := by kernel_rfl
theorem calls154 (a0 a1 : Value) {H : Heap} {Q : Value → Heap → Prop} (h : wpH Go.Proofs.Tryz.prog (fun vs H' => Q (retVal vs) H') (t154 a0 a1) (fun _ _ _ => False) H) : CallsH Go.Proofs.Tryz.prog 154 #[a0, a1] H Q :=
  callsH_of_tree cfg154 mixed Go.Proofs.Tryz.func154 (by rw [tree154]; exact h)

/-- (*hostler/idle.Idle).PutP -/
def cfg157 : Cfg := ⟨tyInts, tyMaps, [], [(1, [4])], []⟩
def t157 (a0 a1 : Value) : T := .join (.pure (.nilChk a0) fun v6 => .pure (.fieldA 259 v6 1) fun v7 => .look (.load 33 v7) fun v8 => .op [] (.callv (.func (.func 215) #[] #[])
  #[v8, a1]) fun v10 => .pure (.un .not v10) fun v11 => .ite v11 (.pure (.nilChk a0) fun v14 => .pure (.fieldA 259 v14 0) fun v15 => .look (.load 257 v15) fun v16 => .op [] (.callv
  (.func (.func 216) #[] #[]) #[v16, a1]) fun v18 => .leaf none [v18]) (.leaf none [(.bool false)])) fun e s1 => onE e (.ret [(sl s1 0)]) fun _ => .bad
theorem tree157 (a0 a1 : Value) : treeF cfg157 Go.Proofs.Tryz.f157 [a0, a1] = t157 a0 a1 := by kernel_rfl
theorem calls157 (a0 a1 : Value) {H : Heap} {Q : Value → Heap → Prop} (h : wpH Go.Proofs.Tryz.prog (fun vs H' => Q (retVal vs) H') (t157 a0 a1) (fun _ _ _ => False) H) : CallsH Go.Proofs.Tryz.prog 157 #[a0, a1] H Q :=
  callsH_of_tree cfg157 mixed Go.Proofs.Tryz.func157 (by rw [tree157]; exact h)

/-- (*hostler/idle.Idle).Stop -/
def cfg158 : Cfg := ⟨tyInts, tyMaps, [], [(1, [6])], []⟩
def t158 (a0 a1 : Value) : T := .join (.pure (.bin .lss 3 (.tmp 7) (.const (.int .i64 0)) a1 (.int .i64 0)) fun v8 => .ite v8 (.leaf none [(.bool true)]) (.pure (.nilChk a0) fun
  v12 => .pure (.fieldA 259 v12 4) fun v13 => .look (.load 3 v13) fun v14 => .pure (.bin .geq 3 (.tmp 10) (.tmp 14) a1 v14) fun v15 => .ite v15 (.leaf none [(.bool true)]) (.pure
  (.nilChk a0) fun v20 => .pure (.fieldA 259 v20 3) fun v21 => .look (.load 3 v21) fun v22 => .pure (.bin .eql 3 (.tmp 18) (.tmp 22) a1 v22) fun v23 => .ite v23 (.leaf none [(.bool
  true)]) (.pure (.nilChk a0) fun v27 => .pure (.fieldA 259 v27 2) fun v28 => .look (.load 33 v28) fun v29 => .op [] (.callv (.func (.func 215) #[] #[]) #[v29, a1]) fun v31 =>
  .leaf none [v31])))) fun e s1 => onE e (.ite (sl s1 0) (.ret [(.bool false), (.bool false)]) (.pure (.nilChk a0) fun v35 => .pure (.fieldA 259 v35 3) fun v36 => .look (.load 3
  v36) fun v37 => .pure (.bin .eql 3 (.tmp 37) (.const (.int .i64 (-1))) v37 (.int .i64 (-1))) fun v38 => .ite v38 (.pure (.nilChk a0) fun v41 => .pure (.fieldA 259 v41 3) fun v42
  => .op [] (.store 3 v42 a1) fun _ => .ret [(.bool true), (.bool true)]) (.pure (.nilChk a0) fun v45 => .pure (.fieldA 259 v45 2) fun v46 => .look (.load 33 v46) fun v47 => .op []
  (.buildSlice 33 1 #[(0, a1)]) fun v49 => .op [] (.builtin .append #[33, 33] 33 #[false, false] #[v47, v49]) fun v50 => .pure (.nilChk a0) fun v51 => .pure (.fieldA 259 v51 2) fun
  v52 => .op [] (.store 33 v52 v50) fun _ => .ret [(.bool false), (.bool true)]))) fun _ => .bad
theorem tree158 (a0 a1 : Value) : treeF cfg158 Go.Proofs.Tryz.f158 [a0, a1] = t158 a0 a1 := by kernel_rfl
theorem calls158 (a0 a1 : Value) {H : Heap} {Q : Value → Heap → Prop} (h : wpH Go.Proofs.Tryz.prog (fun vs H' => Q (retVal vs) H') (t158 a0 a1) (fun _ _ _ => False) H) : CallsH Go.Proofs.Tryz.prog 158 #[a0, a1] H Q :=
  callsH_of_tree cfg158 mixed Go.Proofs.Tryz.func158 (by rw [tree158]; exact h)

/-- (*hostler/idle.Idle).Leave -/
def cfg178 : Cfg := ⟨tyInts, tyMaps, [], [(1, [14])], []⟩
def t178 (a0 a1 : Value) : T := .join (.pure (.bin .lss 3 (.tmp 5) (.const (.int .i64 0)) a1 (.int .i64 0)) fun v6 => .ite v6 (.leaf none [(.bool true)]) (.pure (.nilChk a0) fun
  v10 => .pure (.fieldA 259 v10 3) fun v11 => .look (.load 3 v11) fun v12 => .pure (.bin .neq 3 (.tmp 8) (.tmp 12) a1 v12) fun v13 => .leaf none [v13])) fun e s1 => onE e (.ite (sl
  s1 0) (.ret [(.bool false)]) (.pure (.nilChk a0) fun v16 => .pure (.fieldA 259 v16 3) fun v17 => .op [] (.store 3 v17 (.int .i64 (-1))) fun _ => .ret [(.bool true)])) fun _ =>
  .bad
theorem tree178 (a0 a1 : Value) : treeF cfg178 Go.Proofs.Tryz.f178 [a0, a1] = t178 a0 a1 := by kernel_rfl
theorem calls178 (a0 a1 : Value) {H : Heap} {Q : Value → Heap → Prop} (h : wpH Go.Proofs.Tryz.prog (fun vs H' => Q (retVal vs) H') (t178 a0 a1) (fun _ _ _ => False) H) : CallsH Go.Proofs.Tryz.prog 178 #[a0, a1] H Q :=
  callsH_of_tree cfg178 mixed Go.Proofs.Tryz.func178 (by rw [tree178]; exact h)

/-- (*hostler/idle.Idle).Pending -/
def cfg186 : Cfg := ⟨tyInts, tyMaps, [], [], []⟩
def t186 (a0 : Value) : T := .pure (.nilChk a0) fun v4 => .pure (.fieldA 259 v4 1) fun v5 => .look (.load 33 v5) fun v6 => .pure (.builtin .len #[33] 3 #[false] #[v6]) fun v7 =>
  .ret [v7]
theorem tree186 (a0 : Value) : treeF cfg186 Go.Proofs.Tryz.f186 [a0] = t186 a0 := by kernel_rfl
theorem calls186 (a0 : Value) {H : Heap} {Q : Value → Heap → Prop} (h : wpH Go.Proofs.Tryz.prog (fun vs H' => Q (retVal vs) H') (t186 a0) (fun _ _ _ => False) H) : CallsH Go.Proofs.Tryz.prog 186 #[a0] H Q :=
  callsH_of_tree cfg186 mixed Go.Proofs.Tryz.func186 (by rw [tree186]; exact h)

/-- (*hostler/idle.Idle).TakeP -/
def cfg280 : Cfg := ⟨tyInts, tyMaps, [], [], []⟩
def t280 (a0 : Value) : T := .pure (.nilChk a0) fun v6 => .pure (.fieldA 259 v6 0) fun v7 => .look (.load 257 v7) fun v8 => .op [] (.callv (.func (.func 324) #[] #[]) #[v8]) fun v9
  => .pure (.builtin .max #[3, 3] 3 #[true, false] #[(.int .i64 0), v9]) fun v11 => .pure (.nilChk a0) fun v13 => .pure (.fieldA 259 v13 0) fun v14 => .look (.load 257 v14) fun v15
  => .op [] (.callv (.func (.func 325) #[] #[]) #[v15, v9]) fun v17 => .ret [v11, v17]
theorem tree280 (a0 : Value) : treeF cfg280 Go.Proofs.Tryz.f280 [a0] = t280 a0 := by kernel_rfl
theorem calls280 (a0 : Value) {H : Heap} {Q : Value → Heap → Prop} (h : wpH Go.Proofs.Tryz.prog (fun vs H' => Q (retVal vs) H') (t280 a0) (fun _ _ _ => False) H) : CallsH Go.Proofs.Tryz.prog 280 #[a0] H Q :=
  callsH_of_tree cfg280 mixed Go.Proofs.Tryz.func280 (by rw [tree280]; exact h)

/-- (*hostler/idle.Idle).TakePending -/
def cfg282 : Cfg := ⟨tyInts, tyMaps, [], [], []⟩
def t282 (a0 : Value) : T := .pure (.nilChk a0) fun v6 => .pure (.fieldA 259 v6 1) fun v7 => .look (.load 33 v7) fun v8 => .pure (.builtin .len #[33] 3 #[false] #[v8]) fun v9 =>
  .pure (.bin .eql 3 (.tmp 9) (.const (.int .i64 0)) v9 (.int .i64 0)) fun v10 => .ite v10 (.ret [(.int .i64 0), (.bool false)]) (.pure (.nilChk a0) fun v12 => .pure (.fieldA 259
  v12 1) fun v13 => .look (.load 33 v13) fun v14 => .pure (.indexA 33 v14 (.int .i64 0)) fun v15 => .look (.load 3 v15) fun v16 => .pure (.nilChk a0) fun v19 => .pure (.fieldA 259
  v19 1) fun v20 => .look (.load 33 v20) fun v21 => .op [] (.callv (.func (.func 326) #[] #[]) #[v21, (.int .i64 0), (.int .i64 1)]) fun v22 => .pure (.nilChk a0) fun v23 => .pure
  (.fieldA 259 v23 1) fun v24 => .op [] (.store 33 v24 v22) fun _ => .ret [v16, (.bool true)])
theorem tree282 (a0 : Value) : treeF cfg282 Go.Proofs.Tryz.f282 [a0] = t282 a0 := by kernel_rfl
theorem calls282 (a0 : Value) {H : Heap} {Q : Value → Heap → Prop} (h : wpH Go.Proofs.Tryz.prog (fun vs H' => Q (retVal vs) H') (t282 a0) (fun _ _ _ => False) H) : CallsH Go.Proofs.Tryz.prog 282 #[a0] H Q :=
  callsH_of_tree cfg282 mixed Go.Proofs.Tryz.func282 (by rw [tree282]; exact h)

/-- (*hostler/idle.Idle).TakeM -/
def cfg331 : Cfg := ⟨tyInts, tyMaps, [], [], []⟩
def t331 (a0 : Value) : T := .pure (.nilChk a0) fun v9 => .pure (.fieldA 259 v9 2) fun v10 => .look (.load 33 v10) fun v11 => .pure (.builtin .len #[33] 3 #[false] #[v11]) fun v12
  => .pure (.bin .gtr 3 (.tmp 13) (.const (.int .i64 0)) v12 (.int .i64 0)) fun v14 => .ite v14 (.pure (.nilChk a0) fun v16 => .pure (.fieldA 259 v16 2) fun v17 => .look (.load 33
  v17) fun v18 => .pure (.bin .sub 3 (.tmp 19) (.const (.int .i64 1)) v12 (.int .i64 1)) fun v20 => .pure (.indexA 33 v18 v20) fun v21 => .look (.load 3 v21) fun v22 => .pure
  (.nilChk a0) fun v25 => .pure (.fieldA 259 v25 2) fun v26 => .look (.load 33 v26) fun v27 => .pure (.bin .sub 3 (.tmp 28) (.const (.int .i64 1)) v12 (.int .i64 1)) fun v29 =>
  .pure (.slice 33 v27 none (some v29) none) fun v30 => .pure (.nilChk a0) fun v31 => .pure (.fieldA 259 v31 2) fun v32 => .op [] (.store 33 v32 v30) fun _ => .ret [v22, (.bool
  true)]) (.op [] (.callv (.func (.func 94) #[] #[]) #[a0]) fun v36 => .pure (.extract v36 0) fun v37 => .pure (.extract v36 1) fun v38 => .pure (.nilChk a0) fun v40 => .pure
  (.fieldA 259 v40 3) fun v41 => .op [] (.store 3 v41 (.int .i64 (-1))) fun _ => .ret [v37, v38])
theorem tree331 (a0 : Value) : treeF cfg331 Go.Proofs.Tryz.f331 [a0] = t331 a0 := by kernel_rfl
theorem calls331 (a0 : Value) {H : Heap} {Q : Value → Heap → Prop} (h : wpH Go.Proofs.Tryz.prog (fun vs H' => Q (retVal vs) H') (t331 a0) (fun _ _ _ => False) H) : CallsH Go.Proofs.Tryz.prog 331 #[a0] H Q :=
  callsH_of_tree cfg331 mixed Go.Proofs.Tryz.func331 (by rw [tree331]; exact h)

/-- (*hostler/idle.Idle).Pend -/
def cfg332 : Cfg := ⟨tyInts, tyMaps, [], [(1, [31])], []⟩
def t332 (a0 a1 : Value) : T := .join (.pure (.bin .lss 3 (.tmp 5) (.const (.int .i64 0)) a1 (.int .i64 0)) fun v6 => .ite v6 (.leaf none [(.bool true)]) (.pure (.nilChk a0) fun
  v10 => .pure (.fieldA 259 v10 0) fun v11 => .look (.load 257 v11) fun v12 => .op [] (.callv (.func (.func 359) #[] #[]) #[v12]) fun v13 => .pure (.bin .geq 3 (.tmp 8) (.tmp 13)
  a1 v13) fun v14 => .ite v14 (.leaf none [(.bool true)]) (.pure (.nilChk a0) fun v18 => .pure (.fieldA 259 v18 0) fun v19 => .look (.load 257 v19) fun v20 => .op [] (.callv (.func
  (.func 150) #[] #[]) #[v20, a1]) fun v22 => .ite v22 (.leaf none [(.bool true)]) (.pure (.nilChk a0) fun v26 => .pure (.fieldA 259 v26 1) fun v27 => .look (.load 33 v27) fun v28
  => .op [] (.callv (.func (.func 215) #[] #[]) #[v28, a1]) fun v30 => .leaf none [v30])))) fun e s1 => onE e (.ite (sl s1 0) (.ret [(.bool false)]) (.pure (.nilChk a0) fun v34 =>
  .pure (.fieldA 259 v34 1) fun v35 => .look (.load 33 v35) fun v36 => .op [] (.buildSlice 33 1 #[(0, a1)]) fun v38 => .op [] (.builtin .append #[33, 33] 33 #[false, false] #[v36,
  v38]) fun v39 => .pure (.nilChk a0) fun v40 => .pure (.fieldA 259 v40 1) fun v41 => .op [] (.store 33 v41 v39) fun _ => .ret [(.bool true)])) fun _ => .bad
theorem tree332 (a0 a1 : Value) : treeF cfg332 Go.Proofs.Tryz.f332 [a0, a1] = t332 a0 a1 := by kernel_rfl
theorem calls332 (a0 a1 : Value) {H : Heap} {Q : Value → Heap → Prop} (h : wpH Go.Proofs.Tryz.prog (fun vs H' => Q (retVal vs) H') (t332 a0 a1) (fun _ _ _ => False) H) : CallsH Go.Proofs.Tryz.prog 332 #[a0, a1] H Q :=
  callsH_of_tree cfg332 mixed Go.Proofs.Tryz.func332 (by rw [tree332]; exact h)

/-- (*hostler/mask.Mask).Has -/
def cfg150 : Cfg := ⟨tyInts, tyMaps, [], [(1, [4])], []⟩
def t150 (a0 a1 : Value) : T := .join (.pure (.bin .geq 3 (.tmp 5) (.const (.int .i64 0)) a1 (.int .i64 0)) fun v6 => .ite v6 (.pure (.nilChk a0) fun v10 => .pure (.fieldA 339 v10
  0) fun v11 => .look (.load 3 v11) fun v12 => .pure (.bin .lss 3 (.tmp 8) (.tmp 12) a1 v12) fun v13 => .ite v13 (.pure (.nilChk a0) fun v17 => .pure (.fieldA 339 v17 1) fun v18 =>
  .look (.load 200 v18) fun v19 => .pure (.bin .quo 3 (.tmp 20) (.const (.int .i64 64)) a1 (.int .i64 64)) fun v21 => .pure (.indexA 200 v19 v21) fun v22 => .look (.load 81 v22)
  fun v23 => .pure (.bin .rem 3 (.tmp 24) (.const (.int .i64 64)) a1 (.int .i64 64)) fun v25 => .pure (.bin .shr 81 (.tmp 23) (.tmp 25) v23 v25) fun v26 => .pure (.bin .and 81
  (.tmp 26) (.const (.int .u64 1)) v26 (.int .u64 1)) fun v27 => .pure (.bin .eql 81 (.tmp 27) (.const (.int .u64 1)) v27 (.int .u64 1)) fun v28 => .leaf none [v28]) (.leaf none
  [(.bool false)])) (.leaf none [(.bool false)])) fun e s1 => onE e (.ret [(sl s1 0)]) fun _ => .bad
theorem tree150 (a0 a1 : Value) : treeF cfg150 Go.Proofs.Tryz.f150 [a0, a1] = t150 a0 a1 := by kernel_rfl
theorem calls150 (a0 a1 : Value) {H : Heap} {Q : Value → Heap → Prop} (h : wpH Go.Proofs.Tryz.prog (fun vs H' => Q (retVal vs) H') (t150 a0 a1) (fun _ _ _ => False) H) : CallsH Go.Proofs.Tryz.prog 150 #[a0, a1] H Q :=
  callsH_of_tree cfg150 mixed Go.Proofs.Tryz.func150 (by rw [tree150]; exact h)

/-- (*hostler/mask.Mask).Count -/
def cfg163 : Cfg := ⟨tyInts, tyMaps, [], [], [(3, [3, 11])]⟩
def t163 (a0 : Value) : T := .pure (.nilChk a0) fun v7 => .pure (.fieldA 339 v7 1) fun v8 => .look (.load 200 v8) fun v9 => .pure (.builtin .len #[200] 3 #[false] #[v9]) fun v10 =>
  .loop [(.int .i64 0), (.int .i64 0)] (fun s1 => .pure (.bin .lss 3 (.tmp 11) (.tmp 10) (sl s1 1) v10) fun v12 => .ite v12 (.pure (.indexA 200 v9 (sl s1 1)) fun v13 => .look
  (.load 81 v13) fun v14 => .op [] (.callv (.func (.func 221) #[] #[]) #[v14]) fun v17 => .pure (.bin .add 3 (.tmp 15) (.tmp 17) (sl s1 0) v17) fun v18 => .pure (.bin .add 3 (.tmp
  11) (.const (.int .i64 1)) (sl s1 1) (.int .i64 1)) fun v19 => .leaf none [v18, v19]) (.leaf (some 0) [(sl s1 0), (sl s1 1)])) (fun x s2 => (if Nat.beq x 0 then .ret [(sl s2 0)]
  else .bad))
theorem tree163 (a0 : Value) : treeF cfg163 Go.Proofs.Tryz.f163 [a0] = t163 a0 := by kernel_rfl
theorem calls163 (a0 : Value) {H : Heap} {Q : Value → Heap → Prop} (h : wpH Go.Proofs.Tryz.prog (fun vs H' => Q (retVal vs) H') (t163 a0) (fun _ _ _ => False) H) : CallsH Go.Proofs.Tryz.prog 163 #[a0] H Q :=
  callsH_of_tree cfg163 mixed Go.Proofs.Tryz.func163 (by rw [tree163]; exact h)

/-- (*hostler/mask.Mask).Copy -/
def cfg211 : Cfg := ⟨tyInts, tyMaps, [], [], []⟩
def t211 (a0 : Value) : T := .pure (.nilChk a0) fun v4 => .pure (.fieldA 339 v4 0) fun v5 => .look (.load 3 v5) fun v6 => .pure (.nilChk a0) fun v8 => .pure (.fieldA 339 v8 1) fun
  v9 => .look (.load 200 v9) fun v10 => .op [(.load 3 v5, v6)] (.callv (.func (.func 185) #[] #[]) #[v10]) fun v11 => .pure (.build 339 #[(0, v6), (1, v11)]) fun v12 => .op []
  (.box 339 v12) fun v13 => .ret [v13]
theorem tree211 (a0 : Value) : treeF cfg211 Go.Proofs.Tryz.f211 [a0] = t211 a0 := by kernel_rfl
theorem calls211 (a0 : Value) {H : Heap} {Q : Value → Heap → Prop} (h : wpH Go.Proofs.Tryz.prog (fun vs H' => Q (retVal vs) H') (t211 a0) (fun _ _ _ => False) H) : CallsH Go.Proofs.Tryz.prog 211 #[a0] H Q :=
  callsH_of_tree cfg211 mixed Go.Proofs.Tryz.func211 (by rw [tree211]; exact h)

/-- hostler/mask.New -/
def cfg214 : Cfg := ⟨tyInts, tyMaps, [], [], []⟩
def t214 (a0 : Value) : T := .pure (.builtin .max #[3, 3] 3 #[true, false] #[(.int .i64 0), a0]) fun v4 => .pure (.builtin .min #[3, 3] 3 #[false, true] #[v4, (.int .i64 4096)])
  fun v5 => .pure (.bin .add 3 (.tmp 7) (.const (.int .i64 64)) v5 (.int .i64 64)) fun v8 => .pure (.bin .sub 3 (.tmp 8) (.const (.int .i64 1)) v8 (.int .i64 1)) fun v9 => .pure
  (.bin .quo 3 (.tmp 9) (.const (.int .i64 64)) v9 (.int .i64 64)) fun v10 => .op [] (.mkSlice 200 v10 v10) fun v11 => .pure (.build 339 #[(0, v5), (1, v11)]) fun v12 => .op []
  (.box 339 v12) fun v13 => .ret [v13]
theorem tree214 (a0 : Value) : treeF cfg214 Go.Proofs.Tryz.f214 [a0] = t214 a0 := by kernel_rfl
theorem calls214 (a0 : Value) {H : Heap} {Q : Value → Heap → Prop} (h : wpH Go.Proofs.Tryz.prog (fun vs H' => Q (retVal vs) H') (t214 a0) (fun _ _ _ => False) H) : CallsH Go.Proofs.Tryz.prog 214 #[a0] H Q :=
  callsH_of_tree cfg214 mixed Go.Proofs.Tryz.func214 (by rw [tree214]; exact h)

/-- (*hostler/mask.Mask).Put -/
def cfg216 : Cfg := ⟨tyInts, tyMaps, [], [], []⟩
def t216 (a0 a1 : Value) : T := .op [] (.callv (.func (.func 262) #[] #[]) #[a0, a1, (.bool false)]) fun v7 => .ret [v7]
theorem tree216 (a0 a1 : Value) : treeF cfg216 Go.Proofs.Tryz.f216 [a0, a1] = t216 a0 a1 := by kernel_rfl
theorem calls216 (a0 a1 : Value) {H : Heap} {Q : Value → Heap → Prop} (h : wpH Go.Proofs.Tryz.prog (fun vs H' => Q (retVal vs) H') (t216 a0 a1) (fun _ _ _ => False) H) : CallsH Go.Proofs.Tryz.prog 216 #[a0, a1] H Q :=
  callsH_of_tree cfg216 mixed Go.Proofs.Tryz.func216 (by rw [tree216]; exact h)

/-- (*hostler/mask.Mask).turn -/
def cfg262 : Cfg := ⟨tyInts, tyMaps, [], [(1, [23])], []⟩
def t262 (a0 a1 a2 : Value) : T := .join (.pure (.bin .lss 3 (.tmp 7) (.const (.int .i64 0)) a1 (.int .i64 0)) fun v8 => .ite v8 (.leaf none [(.bool true)]) (.pure (.nilChk a0) fun
  v12 => .pure (.fieldA 339 v12 0) fun v13 => .look (.load 3 v13) fun v14 => .pure (.bin .geq 3 (.tmp 10) (.tmp 14) a1 v14) fun v15 => .ite v15 (.leaf none [(.bool true)]) (.op []
  (.callv (.func (.func 150) #[] #[]) #[a0, a1]) fun v20 => .pure (.bin .neq 4 (.tmp 20) (.tmp 21) v20 a2) fun v22 => .leaf none [v22]))) fun e s1 => onE e (.ite (sl s1 0) (.ret
  [(.bool false)]) (.pure (.nilChk a0) fun v25 => .pure (.fieldA 339 v25 1) fun v26 => .look (.load 200 v26) fun v27 => .pure (.bin .quo 3 (.tmp 28) (.const (.int .i64 64)) a1
  (.int .i64 64)) fun v29 => .pure (.indexA 200 v27 v29) fun v30 => .look (.load 81 v30) fun v31 => .pure (.bin .rem 3 (.tmp 32) (.const (.int .i64 64)) a1 (.int .i64 64)) fun v33
  => .pure (.bin .shl 81 (.const (.int .u64 1)) (.tmp 33) (.int .u64 1) v33) fun v34 => .pure (.bin .xor 81 (.tmp 31) (.tmp 34) v31 v34) fun v35 => .pure (.indexA 200 v27 v29) fun
  v36 => .op [] (.store 81 v36 v35) fun _ => .ret [(.bool true)])) fun _ => .bad
theorem tree262 (a0 a1 a2 : Value) : treeF cfg262 Go.Proofs.Tryz.f262 [a0, a1, a2] = t262 a0 a1 a2 := by kernel_rfl
theorem calls262 (a0 a1 a2 : Value) {H : Heap} {Q : Value → Heap → Prop} (h : wpH Go.Proofs.Tryz.prog (fun vs H' => Q (retVal vs) H') (t262 a0 a1 a2) (fun _ _ _ => False) H) : CallsH Go.Proofs.Tryz.prog 262 #[a0, a1, a2] H Q :=
  callsH_of_tree cfg262 mixed Go.Proofs.Tryz.func262 (by rw [tree262]; exact h)

/-- (*hostler/mask.Mask).First -/
def cfg324 : Cfg := ⟨tyInts, tyMaps, [], [], []⟩
def t324 (a0 : Value) : T := .op [] (.callv (.func (.func 355) #[] #[]) #[a0, (.int .i64 (-1))]) fun v4 => .ret [v4]
theorem tree324 (a0 : Value) : treeF cfg324 Go.Proofs.Tryz.f324 [a0] = t324 a0 := by kernel_rfl
theorem calls324 (a0 : Value) {H : Heap} {Q : Value → Heap → Prop} (h : wpH Go.Proofs.Tryz.prog (fun vs H' => Q (retVal vs) H') (t324 a0) (fun _ _ _ => False) H) : CallsH Go.Proofs.Tryz.prog 324 #[a0] H Q :=
  callsH_of_tree cfg324 mixed Go.Proofs.Tryz.func324 (by rw [tree324]; exact h)

/-- (*hostler/mask.Mask).Take -/
def cfg325 : Cfg := ⟨tyInts, tyMaps, [], [], []⟩
def t325 (a0 a1 : Value) : T := .op [] (.callv (.func (.func 262) #[] #[]) #[a0, a1, (.bool true)]) fun v7 => .ret [v7]
theorem tree325 (a0 a1 : Value) : treeF cfg325 Go.Proofs.Tryz.f325 [a0, a1] = t325 a0 a1 := by kernel_rfl
theorem calls325 (a0 a1 : Value) {H : Heap} {Q : Value → Heap → Prop} (h : wpH Go.Proofs.Tryz.prog (fun vs H' => Q (retVal vs) H') (t325 a0 a1) (fun _ _ _ => False) H) : CallsH Go.Proofs.Tryz.prog 325 #[a0, a1] H Q :=
  callsH_of_tree cfg325 mixed Go.Proofs.Tryz.func325 (by rw [tree325]; exact h)

/-- (*hostler/mask.Mask).Next -/
def cfg355 : Cfg := ⟨tyInts, tyMaps, [], [], [(2, [1])]⟩
def t355 (a0 a1 : Value) : T := .pure (.builtin .max #[3, 3] 3 #[false, true] #[a1, (.int .i64 (-1))]) fun v7 => .loop [v7] (fun s1 => .pure (.nilChk a0) fun v10 => .pure (.fieldA
  339 v10 0) fun v11 => .look (.load 3 v11) fun v12 => .pure (.bin .sub 3 (.tmp 12) (.const (.int .i64 1)) v12 (.int .i64 1)) fun v13 => .pure (.bin .lss 3 (.tmp 8) (.tmp 13) (sl
  s1 0) v13) fun v14 => .ite v14 (.pure (.bin .add 3 (.tmp 15) (.const (.int .i64 1)) (sl s1 0) (.int .i64 1)) fun v16 => .pure (.nilChk a0) fun v18 => .pure (.fieldA 339 v18 1)
  fun v19 => .look (.load 200 v19) fun v20 => .pure (.bin .quo 3 (.tmp 21) (.const (.int .i64 64)) v16 (.int .i64 64)) fun v22 => .pure (.indexA 200 v20 v22) fun v23 => .look
  (.load 81 v23) fun v24 => .pure (.bin .rem 3 (.tmp 25) (.const (.int .i64 64)) v16 (.int .i64 64)) fun v26 => .pure (.bin .shr 81 (.tmp 24) (.tmp 26) v24 v26) fun v27 => .pure
  (.bin .neq 81 (.tmp 28) (.const (.int .u64 0)) v27 (.int .u64 0)) fun v29 => .ite v29 (.op [] (.callv (.func (.func 369) #[] #[]) #[v27]) fun v32 => .pure (.bin .add 3 (.tmp 30)
  (.tmp 32) v16 v32) fun v33 => .ret [v33]) (.pure (.bin .or 3 (.tmp 34) (.const (.int .i64 63)) v16 (.int .i64 63)) fun v35 => .leaf none [v35])) (.leaf (some 0) [(sl s1 0)]))
  (fun x _ => (if Nat.beq x 0 then .ret [(.int .i64 (-1))] else .bad))
theorem tree355 (a0 a1 : Value) : treeF cfg355 Go.Proofs.Tryz.f355 [a0, a1] = t355 a0 a1 := by kernel_rfl
theorem calls355 (a0 a1 : Value) {H : Heap} {Q : Value → Heap → Prop} (h : wpH Go.Proofs.Tryz.prog (fun vs H' => Q (retVal vs) H') (t355 a0 a1) (fun _ _ _ => False) H) : CallsH Go.Proofs.Tryz.prog 355 #[a0, a1] H Q :=
  callsH_of_tree cfg355 mixed Go.Proofs.Tryz.func355 (by rw [tree355]; exact h)

/-- (*hostler/mask.Mask).Len -/
def cfg359 : Cfg := ⟨tyInts, tyMaps, [], [], []⟩
def t359 (a0 : Value) : T := .pure (.nilChk a0) fun v4 => .pure (.fieldA 339 v4 0) fun v5 => .look (.load 3 v5) fun v6 => .ret [v6]
theorem tree359 (a0 : Value) : treeF cfg359 Go.Proofs.Tryz.f359 [a0] = t359 a0 := by kernel_rfl
theorem calls359 (a0 : Value) {H : Heap} {Q : Value → Heap → Prop} (h : wpH Go.Proofs.Tryz.prog (fun vs H' => Q (retVal vs) H') (t359 a0) (fun _ _ _ => False) H) : CallsH Go.Proofs.Tryz.prog 359 #[a0] H Q :=
  callsH_of_tree cfg359 mixed Go.Proofs.Tryz.func359 (by rw [tree359]; exact h)

/-- hostler/status.Legal -/
def cfg84 : Cfg := ⟨tyInts, tyMaps, [], [(1, [4])], []⟩
def t84 (a0 a1 : Value) : T := .join (.pure (.bin .lss 82 (.tmp 5) (.const (.int .u64 7)) a0 (.int .u64 7)) fun v6 => .ite v6 (.pure (.indexA 255 (.pointer (some ⟨0, 0, none⟩)) a0)
  fun v9 => .look (.load 210 v9) fun v10 => .op [] (.callv (.func (.func 146) #[] #[]) #[v10, a1]) fun v12 => .leaf none [v12]) (.leaf none [(.bool false)])) fun e s1 => onE e
  (.ret [(sl s1 0)]) fun _ => .bad
theorem tree84 (a0 a1 : Value) : treeF cfg84 Go.Proofs.Tryz.f84 [a0, a1] = t84 a0 a1 := by kernel_rfl
theorem calls84 (a0 a1 : Value) {H : Heap} {Q : Value → Heap → Prop} (h : wpH Go.Proofs.Tryz.prog (fun vs H' => Q (retVal vs) H') (t84 a0 a1) (fun _ _ _ => False) H) : CallsH Go.Proofs.Tryz.prog 84 #[a0, a1] H Q :=
  callsH_of_tree cfg84 mixed Go.Proofs.Tryz.func84 (by rw [tree84]; exact h)

/-- (hostler/status.Table).Of -/
def cfg124 : Cfg := ⟨tyInts, tyMaps, [], [], []⟩
def t124 (a0 a1 a2 : Value) : T := .op [] (.box 186 a0) fun v3 => .look (.load 186 v3) fun v7 => .op [] (.callv (.func (.func 191) #[] #[]) #[v7, a2]) fun v9 => .pure (.un .not v9)
  fun v10 => .ite v10 (.ret [(.int .u64 0)]) (.pure (.fieldA 186 v3 0) fun v12 => .look (.load 3 v12) fun v13 => .pure (.bin .add 3 (.tmp 13) (.tmp 14) v13 a2) fun v15 => .op []
  (.callv (.func (.func 131) #[] #[]) #[a1, v15]) fun v16 => .ret [v16])
theorem tree124 (a0 a1 a2 : Value) : treeF cfg124 Go.Proofs.Tryz.f124 [a0, a1, a2] = t124 a0 a1 a2 := by kernel_rfl
theorem calls124 (a0 a1 a2 : Value) {H : Heap} {Q : Value → Heap → Prop} (h : wpH Go.Proofs.Tryz.prog (fun vs H' => Q (retVal vs) H') (t124 a0 a1 a2) (fun _ _ _ => False) H) : CallsH Go.Proofs.Tryz.prog 124 #[a0, a1, a2] H Q :=
  callsH_of_tree cfg124 mixed Go.Proofs.Tryz.func124 (by rw [tree124]; exact h)

/-- (hostler/status.Table).Move -/
def cfg159 : Cfg := ⟨tyInts, tyMaps, [], [(1, [10])], []⟩
def t159 (a0 a1 a2 a3 a4 : Value) : T := .op [] (.box 186 a0) fun v5 => .join (.look (.load 186 v5) fun v11 => .op [] (.callv (.func (.func 191) #[] #[]) #[v11, a2]) fun v13 =>
  .ite v13 (.op [] (.callv (.func (.func 84) #[] #[]) #[a3, a4]) fun v17 => .ite v17 (.pure (.fieldA 186 v5 0) fun v21 => .look (.load 3 v21) fun v22 => .pure (.bin .add 3 (.tmp
  22) (.tmp 23) v22 a2) fun v24 => .op [] (.callv (.func (.func 217) #[] #[]) #[a1, v24, a3, a4]) fun v27 => .leaf none [v27]) (.leaf none [(.bool false)])) (.leaf none [(.bool
  false)])) fun e s1 => onE e (.ret [(sl s1 0)]) fun _ => .bad
theorem tree159 (a0 a1 a2 a3 a4 : Value) : treeF cfg159 Go.Proofs.Tryz.f159 [a0, a1, a2, a3, a4] = t159 a0 a1 a2 a3 a4 := by kernel_rfl
theorem calls159 (a0 a1 a2 a3 a4 : Value) {H : Heap} {Q : Value → Heap → Prop} (h : wpH Go.Proofs.Tryz.prog (fun vs H' => Q (retVal vs) H') (t159 a0 a1 a2 a3 a4) (fun _ _ _ => False) H) : CallsH Go.Proofs.Tryz.prog 159 #[a0, a1, a2, a3, a4] H Q :=
  callsH_of_tree cfg159 mixed Go.Proofs.Tryz.func159 (by rw [tree159]; exact h)

/-- (hostler/status.Table).in -/
def cfg191 : Cfg := ⟨tyInts, tyMaps, [], [(1, [4])], []⟩
def t191 (a0 a1 : Value) : T := .op [] (.box 186 a0) fun v2 => .join (.pure (.bin .geq 3 (.tmp 5) (.const (.int .i64 0)) a1 (.int .i64 0)) fun v6 => .ite v6 (.pure (.fieldA 186 v2
  1) fun v9 => .look (.load 3 v9) fun v10 => .pure (.bin .lss 3 (.tmp 8) (.tmp 10) a1 v10) fun v11 => .leaf none [v11]) (.leaf none [(.bool false)])) fun e s1 => onE e (.ret [(sl
  s1 0)]) fun _ => .bad
theorem tree191 (a0 a1 : Value) : treeF cfg191 Go.Proofs.Tryz.f191 [a0, a1] = t191 a0 a1 := by kernel_rfl
theorem calls191 (a0 a1 : Value) {H : Heap} {Q : Value → Heap → Prop} (h : wpH Go.Proofs.Tryz.prog (fun vs H' => Q (retVal vs) H') (t191 a0 a1) (fun _ _ _ => False) H) : CallsH Go.Proofs.Tryz.prog 191 #[a0, a1] H Q :=
  callsH_of_tree cfg191 mixed Go.Proofs.Tryz.func191 (by rw [tree191]; exact h)

/-- (hostler/status.Table).Set -/
def cfg244 : Cfg := ⟨tyInts, tyMaps, [], [(1, [8])], []⟩
def t244 (a0 a1 a2 a3 : Value) : T := .op [] (.box 186 a0) fun v4 => .join (.look (.load 186 v4) fun v9 => .op [] (.callv (.func (.func 191) #[] #[]) #[v9, a2]) fun v11 => .ite v11
  (.pure (.bin .lss 82 (.tmp 13) (.const (.int .u64 7)) a3 (.int .u64 7)) fun v14 => .ite v14 (.pure (.fieldA 186 v4 0) fun v18 => .look (.load 3 v18) fun v19 => .pure (.bin .add 3
  (.tmp 19) (.tmp 20) v19 a2) fun v21 => .op [] (.callv (.func (.func 290) #[] #[]) #[a1, v21, a3]) fun v23 => .leaf none [v23]) (.leaf none [(.bool false)])) (.leaf none [(.bool
  false)])) fun e s1 => onE e (.ret [(sl s1 0)]) fun _ => .bad
theorem tree244 (a0 a1 a2 a3 : Value) : treeF cfg244 Go.Proofs.Tryz.f244 [a0, a1, a2, a3] = t244 a0 a1 a2 a3 := by kernel_rfl
theorem calls244 (a0 a1 a2 a3 : Value) {H : Heap} {Q : Value → Heap → Prop} (h : wpH Go.Proofs.Tryz.prog (fun vs H' => Q (retVal vs) H') (t244 a0 a1 a2 a3) (fun _ _ _ => False) H) : CallsH Go.Proofs.Tryz.prog 244 #[a0, a1, a2, a3] H Q :=
  callsH_of_tree cfg244 mixed Go.Proofs.Tryz.func244 (by rw [tree244]; exact h)

/-- hostler/event.Steps -/
def cfg83 : Cfg := ⟨tyInts, tyMaps, [], [], []⟩
def t83 (a0 : Value) : T := .op [] (.box 43 a0) fun v1 => .pure (.fieldA 43 v1 0) fun v7 => .look (.load 41 v7) fun v8 => .op [] (.callv (.func (.func 145) #[] #[]) #[v8]) fun v9
  => .pure (.extract v9 0) fun v10 => .pure (.extract v9 1) fun v11 => .op [] (.alloc 251) fun v5 => .op [] (.store 251 v5 v10) fun _ => .pure (.fieldA 251 v5 1) fun v12 => .look
  (.load 82 v12) fun v13 => .pure (.fieldA 251 v5 2) fun v14 => .look (.load 82 v14) fun v15 => .ret [v13, v15, v11]
theorem tree83 (a0 : Value) : treeF cfg83 Go.Proofs.Tryz.f83 [a0] = t83 a0 := by kernel_rfl
theorem calls83 (a0 : Value) {H : Heap} {Q : Value → Heap → Prop} (h : wpH Go.Proofs.Tryz.prog (fun vs H' => Q (retVal vs) H') (t83 a0) (fun _ _ _ => False) H) : CallsH Go.Proofs.Tryz.prog 83 #[a0] H Q :=
  callsH_of_tree cfg83 mixed Go.Proofs.Tryz.func83 (by rw [tree83]; exact h)

/-- (*hostler/event.Log).From -/
def cfg113 : Cfg := ⟨tyInts, tyMaps, [], [], []⟩
def t113 (a0 a1 : Value) : T := .pure (.nilChk a0) fun v6 => .pure (.fieldA 191 v6 0) fun v7 => .look (.load 60 v7) fun v8 => .pure (.builtin .max #[3, 3] 3 #[true, false] #[(.int
  .i64 0), a1]) fun v10 => .pure (.nilChk a0) fun v12 => .pure (.fieldA 191 v12 0) fun v13 => .look (.load 60 v13) fun v14 => .pure (.builtin .len #[60] 3 #[false] #[v14]) fun v15
  => .pure (.builtin .min #[3, 3] 3 #[false, false] #[v10, v15]) fun v16 => .pure (.slice 60 v8 (some v16) none none) fun v17 => .op [] (.callv (.func (.func 184) #[] #[]) #[v17])
  fun v18 => .ret [v18]
theorem tree113 (a0 a1 : Value) : treeF cfg113 Go.Proofs.Tryz.f113 [a0, a1] = t113 a0 a1 := by kernel_rfl
theorem calls113 (a0 a1 : Value) {H : Heap} {Q : Value → Heap → Prop} (h : wpH Go.Proofs.Tryz.prog (fun vs H' => Q (retVal vs) H') (t113 a0 a1) (fun _ _ _ => False) H) : CallsH Go.Proofs.Tryz.prog 113 #[a0, a1] H Q :=
  callsH_of_tree cfg113 mixed Go.Proofs.Tryz.func113 (by rw [tree113]; exact h)

/-- hostler/event.of -/
def cfg145 : Cfg := ⟨tyInts, tyMaps, [], [(1, [9])], []⟩
def t145 (a0 : Value) : T := .op [] (.alloc 251) fun v2 => .join (.pure (.bin .lss 41 (.tmp 4) (.const (.int .i64 0)) a0 (.int .i64 0)) fun v5 => .ite v5 (.leaf none [(.bool
  true)]) (.pure (.bin .geq 41 (.tmp 7) (.const (.int .i64 8)) a0 (.int .i64 8)) fun v8 => .leaf none [v8])) fun e s1 => onE e (.ite (sl s1 0) (.pure (.build 251 #[]) fun v10 =>
  .op [] (.store 251 v2 v10) fun _ => .look (.resv 251 v2) fun r0 => .ret [r0, (.bool false)]) (.pure (.indexA 334 (.pointer (some ⟨1, 0, none⟩)) a0) fun v12 => .look (.load 251
  v12) fun v13 => .op [] (.store 251 v2 v13) fun _ => .look (.resv 251 v2) fun r0 => .ret [r0, (.bool true)])) fun _ => .bad
theorem tree145 (a0 : Value) : treeF cfg145 Go.Proofs.Tryz.f145 [a0] = t145 a0 := by kernel_rfl
theorem calls145 (a0 : Value) {H : Heap} {Q : Value → Heap → Prop} (h : wpH Go.Proofs.Tryz.prog (fun vs H' => Q (retVal vs) H') (t145 a0) (fun _ _ _ => False) H) : CallsH Go.Proofs.Tryz.prog 145 #[a0] H Q :=
  callsH_of_tree cfg145 mixed Go.Proofs.Tryz.func145 (by rw [tree145]; exact h)

/-- (*hostler/event.Log).Add -/
def cfg160 : Cfg := ⟨tyInts, tyMaps, [], [], []⟩
def t160 (a0 a1 : Value) : T := .op [] (.box 43 a1) fun v3 => .look (.load 43 v3) fun v5 => .op [] (.callv (.func (.func 218) #[] #[]) #[v5]) fun v6 => .pure (.un .not v6) fun v7
  => .ite v7 (.ret [(.bool false)]) (.pure (.nilChk a0) fun v10 => .pure (.fieldA 191 v10 0) fun v11 => .look (.load 60 v11) fun v12 => .look (.load 43 v3) fun v13 => .op [(.load
  60 v11, v12)] (.buildSlice 60 1 #[(0, v13)]) fun v14 => .op [] (.builtin .append #[60, 60] 60 #[false, false] #[v12, v14]) fun v15 => .pure (.nilChk a0) fun v16 => .pure (.fieldA
  191 v16 0) fun v17 => .op [] (.store 60 v17 v15) fun _ => .ret [(.bool true)])
theorem tree160 (a0 a1 : Value) : treeF cfg160 Go.Proofs.Tryz.f160 [a0, a1] = t160 a0 a1 := by kernel_rfl
theorem calls160 (a0 a1 : Value) {H : Heap} {Q : Value → Heap → Prop} (h : wpH Go.Proofs.Tryz.prog (fun vs H' => Q (retVal vs) H') (t160 a0 a1) (fun _ _ _ => False) H) : CallsH Go.Proofs.Tryz.prog 160 #[a0, a1] H Q :=
  callsH_of_tree cfg160 mixed Go.Proofs.Tryz.func160 (by rw [tree160]; exact h)

/-- hostler/event.Right -/
def cfg218 : Cfg := ⟨tyInts, tyMaps, [], [(2, [2])], []⟩
def t218 (a0 : Value) : T := .op [] (.box 43 a0) fun v1 => .pure (.fieldA 43 v1 0) fun v6 => .look (.load 41 v6) fun v7 => .op [] (.callv (.func (.func 145) #[] #[]) #[v7]) fun v8
  => .pure (.extract v8 0) fun v9 => .pure (.extract v8 1) fun v10 => .op [] (.alloc 251) fun v3 => .op [] (.store 251 v3 v9) fun _ => .join (.ite v10 (.pure (.fieldA 43 v1 1) fun
  v13 => .look (.load 3 v13) fun v14 => .pure (.bin .geq 3 (.tmp 14) (.const (.int .i64 0)) v14 (.int .i64 0)) fun v15 => .ite v15 (.pure (.fieldA 43 v1 1) fun v18 => .look (.load
  3 v18) fun v19 => .pure (.bin .lss 3 (.tmp 19) (.const (.int .i64 4096)) v19 (.int .i64 4096)) fun v20 => .ite v20 (.pure (.fieldA 43 v1 2) fun v23 => .look (.load 3 v23) fun v24
  => .pure (.bin .geq 3 (.tmp 24) (.const (.int .i64 (-1))) v24 (.int .i64 (-1))) fun v25 => .ite v25 (.pure (.fieldA 43 v1 2) fun v28 => .look (.load 3 v28) fun v29 => .pure (.bin
  .lss 3 (.tmp 29) (.const (.int .i64 128)) v29 (.int .i64 128)) fun v30 => .ite v30 (.pure (.fieldA 43 v1 3) fun v33 => .look (.load 3 v33) fun v34 => .pure (.bin .geq 3 (.tmp 34)
  (.const (.int .i64 (-1))) v34 (.int .i64 (-1))) fun v35 => .ite v35 (.pure (.fieldA 43 v1 3) fun v38 => .look (.load 3 v38) fun v39 => .pure (.bin .lss 3 (.tmp 39) (.const (.int
  .i64 64)) v39 (.int .i64 64)) fun v40 => .ite v40 (.look (.load 43 v1) fun v43 => .op [] (.callv (.func (.func 263) #[] #[]) #[v43]) fun v44 => .leaf none [v44]) (.leaf none
  [(.bool false)])) (.leaf none [(.bool false)])) (.leaf none [(.bool false)])) (.leaf none [(.bool false)])) (.leaf none [(.bool false)])) (.leaf none [(.bool false)])) (.leaf
  none [(.bool false)])) fun e s1 => onE e (.ret [(sl s1 0)]) fun _ => .bad
theorem tree218 (a0 : Value) : treeF cfg218 Go.Proofs.Tryz.f218 [a0] = t218 a0 := by kernel_rfl
theorem calls218 (a0 : Value) {H : Heap} {Q : Value → Heap → Prop} (h : wpH Go.Proofs.Tryz.prog (fun vs H' => Q (retVal vs) H') (t218 a0) (fun _ _ _ => False) H) : CallsH Go.Proofs.Tryz.prog 218 #[a0] H Q :=
  callsH_of_tree cfg218 mixed Go.Proofs.Tryz.func218 (by rw [tree218]; exact h)

/-- hostler/event.value -/
def cfg263 : Cfg := ⟨tyInts, tyMaps, [], [(5, [2])], []⟩
def t263 (a0 : Value) : T := .op [] (.box 43 a0) fun v1 => .pure (.fieldA 43 v1 0) fun v3 => .look (.load 41 v3) fun v4 => .pure (.bin .eql 41 (.tmp 4) (.const (.int .i64 5)) v4
  (.int .i64 5)) fun v6 => .ite v6 (.ret [(.bool true)]) (.pure (.bin .eql 41 (.tmp 4) (.const (.int .i64 6)) v4 (.int .i64 6)) fun v8 => .ite v8 (.join (.pure (.fieldA 43 v1 4)
  fun v9 => .look (.load 2 v9) fun v10 => .pure (.bin .geq 2 (.tmp 10) (.const (.int .i64 0)) v10 (.int .i64 0)) fun v11 => .ite v11 (.pure (.fieldA 43 v1 4) fun v13 => .look
  (.load 2 v13) fun v14 => .pure (.bin .lss 2 (.tmp 14) (.const (.int .i64 65536)) v14 (.int .i64 65536)) fun v15 => .leaf none [v15]) (.leaf none [(.bool false)])) fun e s1 => onE
  e (.ret [(sl s1 0)]) fun _ => .bad) (.pure (.fieldA 43 v1 4) fun v17 => .look (.load 2 v17) fun v18 => .pure (.bin .eql 2 (.tmp 18) (.const (.int .i64 0)) v18 (.int .i64 0)) fun
  v19 => .ret [v19]))
theorem tree263 (a0 : Value) : treeF cfg263 Go.Proofs.Tryz.f263 [a0] = t263 a0 := by kernel_rfl
theorem calls263 (a0 : Value) {H : Heap} {Q : Value → Heap → Prop} (h : wpH Go.Proofs.Tryz.prog (fun vs H' => Q (retVal vs) H') (t263 a0) (fun _ _ _ => False) H) : CallsH Go.Proofs.Tryz.prog 263 #[a0] H Q :=
  callsH_of_tree cfg263 mixed Go.Proofs.Tryz.func263 (by rw [tree263]; exact h)

/-- (*hostler/section.Section).Waits -/
def cfg68 : Cfg := ⟨tyInts, tyMaps, [], [], []⟩
def t68 (a0 : Value) : T := .pure (.nilChk a0) fun v4 => .pure (.fieldA 96 v4 1) fun v5 => .look (.load 3 v5) fun v6 => .pure (.bin .eql 3 (.tmp 6) (.const (.int .i64 1)) v6 (.int
  .i64 1)) fun v7 => .ret [v7]
theorem tree68 (a0 : Value) : treeF cfg68 Go.Proofs.Tryz.f68 [a0] = t68 a0 := by kernel_rfl
theorem calls68 (a0 : Value) {H : Heap} {Q : Value → Heap → Prop} (h : wpH Go.Proofs.Tryz.prog (fun vs H' => Q (retVal vs) H') (t68 a0) (fun _ _ _ => False) H) : CallsH Go.Proofs.Tryz.prog 68 #[a0] H Q :=
  callsH_of_tree cfg68 mixed Go.Proofs.Tryz.func68 (by rw [tree68]; exact h)

/-- hostler/section.Begin -/
def cfg235 : Cfg := ⟨tyInts, tyMaps, [], [], []⟩
def t235 (a0 : Value) : T := .op [] (.box 94 a0) fun v1 => .op [] (.alloc 96) fun v2 => .look (.load 94 v1) fun v3 => .pure (.build 96 #[(0, v3)]) fun v4 => .op [] (.store 96 v2
  v4) fun _ => .look (.resv 96 v2) fun r0 => .ret [r0]
theorem tree235 (a0 : Value) : treeF cfg235 Go.Proofs.Tryz.f235 [a0] = t235 a0 := by kernel_rfl
theorem calls235 (a0 : Value) {H : Heap} {Q : Value → Heap → Prop} (h : wpH Go.Proofs.Tryz.prog (fun vs H' => Q (retVal vs) H') (t235 a0) (fun _ _ _ => False) H) : CallsH Go.Proofs.Tryz.prog 235 #[a0] H Q :=
  callsH_of_tree cfg235 mixed Go.Proofs.Tryz.func235 (by rw [tree235]; exact h)

/-- (*hostler/section.Section).Step -/
def cfg236 : Cfg := ⟨tyInts, tyMaps, [(16, [])], [(9, [7])], []⟩
def t236 (a0 a1 a2 : Value) : T := .join (.pure (.nilChk a0) fun v9 => .pure (.fieldA 96 v9 1) fun v10 => .look (.load 3 v10) fun v11 => .pure (.bin .eql 3 (.tmp 11) (.const (.int
  .i64 0)) v11 (.int .i64 0)) fun v13 => .ite v13 (.pure (.nilChk a0) fun v16 => .pure (.fieldA 96 v16 0) fun v17 => .look (.load 94 v17) fun v18 => .op [] (.callv (.func (.func
  269) #[] #[]) #[v18, a1]) fun v20 => .pure (.nilChk a0) fun v21 => .pure (.fieldA 96 v21 2) fun v22 => .op [] (.store 81 v22 v20) fun _ => .pure (.nilChk a0) fun v24 => .pure
  (.fieldA 96 v24 1) fun v25 => .op [] (.store 3 v25 (.int .i64 1)) fun _ => .leaf none []) (.pure (.bin .eql 3 (.tmp 11) (.const (.int .i64 1)) v11 (.int .i64 1)) fun v27 => .ite
  v27 (.pure (.nilChk a0) fun v29 => .pure (.fieldA 96 v29 0) fun v30 => .look (.load 94 v30) fun v31 => .pure (.nilChk a0) fun v34 => .pure (.fieldA 96 v34 2) fun v35 => .look
  (.load 81 v35) fun v36 => .op [] (.callv (.func (.func 270) #[] #[]) #[v31, a1, v36]) fun v37 => .ite v37 (.pure (.nilChk a0) fun v39 => .pure (.fieldA 96 v39 1) fun v40 => .op
  [] (.store 3 v40 (.int .i64 2)) fun _ => .leaf none []) (.leaf none [])) (.pure (.bin .eql 3 (.tmp 11) (.const (.int .i64 2)) v11 (.int .i64 2)) fun v42 => .ite v42 (.join (.pure
  (.bin .neq 102 (.tmp 43) (.const .nilFunc) a2 .nilFunc) fun v44 => .ite v44 (.pure (.nilChk a0) fun v48 => .pure (.fieldA 96 v48 3) fun v49 => .look (.load 3 v49) fun v50 => .op
  [] (.callv a2 #[v50]) fun v51 => .leaf none [v51]) (.leaf none [(.bool false)])) fun e s2 => onE e (.pure (.nilChk a0) fun v54 => .pure (.fieldA 96 v54 3) fun v55 => .look (.load
  3 v55) fun v56 => .pure (.bin .add 3 (.tmp 56) (.const (.int .i64 1)) v56 (.int .i64 1)) fun v57 => .pure (.nilChk a0) fun v58 => .pure (.fieldA 96 v58 3) fun v59 => .op []
  (.store 3 v59 v57) fun _ => .pure (.un .not (sl s2 0)) fun v61 => .ite v61 (.pure (.nilChk a0) fun v63 => .pure (.fieldA 96 v63 1) fun v64 => .op [] (.store 3 v64 (.int .i64 3))
  fun _ => .leaf none []) (.leaf none [])) fun _ => .bad) (.pure (.bin .eql 3 (.tmp 11) (.const (.int .i64 3)) v11 (.int .i64 3)) fun v66 => .ite v66 (.pure (.nilChk a0) fun v68 =>
  .pure (.fieldA 96 v68 0) fun v69 => .look (.load 94 v69) fun v70 => .pure (.nilChk a0) fun v73 => .pure (.fieldA 96 v73 2) fun v74 => .look (.load 81 v74) fun v75 => .op []
  (.callv (.func (.func 271) #[] #[]) #[v70, a1, v75]) fun _ => .pure (.nilChk a0) fun v78 => .pure (.fieldA 96 v78 1) fun v79 => .op [] (.store 3 v79 (.int .i64 4)) fun _ => .leaf
  none []) (.leaf none []))))) fun e _ => onE e (.pure (.nilChk a0) fun v81 => .pure (.fieldA 96 v81 1) fun v82 => .look (.load 3 v82) fun v83 => .pure (.bin .eql 3 (.tmp 83)
  (.const (.int .i64 4)) v83 (.int .i64 4)) fun v84 => .ret [v84]) fun _ => .bad
theorem tree236 (a0 a1 a2 : Value) : treeF cfg236 Go.Proofs.Tryz.f236 [a0, a1, a2] = t236 a0 a1 a2 := by kernel_rfl
theorem calls236 (a0 a1 a2 : Value) {H : Heap} {Q : Value → Heap → Prop} (h : wpH Go.Proofs.Tryz.prog (fun vs H' => Q (retVal vs) H') (t236 a0 a1 a2) (fun _ _ _ => False) H) : CallsH Go.Proofs.Tryz.prog 236 #[a0, a1, a2] H Q :=
  callsH_of_tree cfg236 mixed Go.Proofs.Tryz.func236 (by rw [tree236]; exact h)

/-- hostler/mach.Fresh -/
def cfg129 : Cfg := ⟨tyInts, tyMaps, [], [], []⟩
def t129 : T := .op [] (.alloc 98) fun v0 => .pure (.build 98 #[(0, (.int .i64 16)), (1, (.int .i64 (-1))), (2, (.int .i64 (-1))), (3, (.int .i64 (-1))), (4, (.int .i64 (-1))), (5,
  (.int .i64 (-1)))]) fun v1 => .op [] (.store 98 v0 v1) fun _ => .look (.resv 98 v0) fun r0 => .ret [r0]
theorem tree129 : treeF cfg129 Go.Proofs.Tryz.f129 [] = t129  := by kernel_rfl
theorem calls129 {H : Heap} {Q : Value → Heap → Prop} (h : wpH Go.Proofs.Tryz.prog (fun vs H' => Q (retVal vs) H') (t129 ) (fun _ _ _ => False) H) : CallsH Go.Proofs.Tryz.prog 129 #[] H Q :=
  callsH_of_tree cfg129 mixed Go.Proofs.Tryz.func129 (by rw [tree129]; exact h)

/-- hostler/mach.Copy -/
def cfg130 : Cfg := ⟨tyInts, tyMaps, [], [], []⟩
def t130 (a0 : Value) : T := .op [] (.box 98 a0) fun v1 => .op [] (.alloc 98) fun v2 => .pure (.fieldA 98 v1 9) fun v3 => .look (.load 33 v3) fun v4 => .op [] (.callv (.func (.func
  134) #[] #[]) #[v4]) fun v5 => .pure (.fieldA 98 v1 9) fun v6 => .op [] (.store 33 v6 v5) fun _ => .look (.load 98 v1) fun v7 => .op [] (.store 98 v2 v7) fun _ => .look (.resv 98
  v2) fun r0 => .ret [r0]
theorem tree130 (a0 : Value) : treeF cfg130 Go.Proofs.Tryz.f130 [a0] = t130 a0 := by kernel_rfl
theorem calls130 (a0 : Value) {H : Heap} {Q : Value → Heap → Prop} (h : wpH Go.Proofs.Tryz.prog (fun vs H' => Q (retVal vs) H') (t130 a0) (fun _ _ _ => False) H) : CallsH Go.Proofs.Tryz.prog 130 #[a0] H Q :=
  callsH_of_tree cfg130 mixed Go.Proofs.Tryz.func130 (by rw [tree130]; exact h)

/-- hostler/mach.Lock -/
def cfg175 : Cfg := ⟨tyInts, tyMaps, [], [(2, [18]), (14, [50])], []⟩
def t175 (a0 a1 : Value) : T := .op [] (.box 98 a0) fun v2 => .pure (.fieldA 98 v2 0) fun v8 => .look (.load 92 v8) fun v9 => .op [] (.callv (.func (.func 233) #[] #[]) #[v9]) fun
  v10 => .pure (.extract v10 0) fun v11 => .pure (.extract v10 1) fun v12 => .op [] (.alloc 366) fun v5 => .op [] (.store 366 v5 v11) fun _ => .join (.pure (.un .not v12) fun v14
  => .ite v14 (.leaf none [(.bool true)]) (.pure (.bin .lss 3 (.tmp 16) (.const (.int .i64 1)) a1 (.int .i64 1)) fun v17 => .leaf none [v17])) fun e s1 => onE e (.ite (sl s1 0)
  (.ret [(.int .i64 (-1))]) (.pure (.fieldA 366 v5 1) fun v19 => .look (.load 364 v19) fun v20 => .pure (.bin .eql 364 (.tmp 20) (.const (.int .i64 1)) v20 (.int .i64 1)) fun v22
  => .ite v22 (.ret [(.int .i64 0)]) (.pure (.bin .eql 364 (.tmp 20) (.const (.int .i64 5)) v20 (.int .i64 5)) fun v24 => .ite v24 (.pure (.bin .add 3 (.tmp 25) (.const (.int .i64
  1)) a1 (.int .i64 1)) fun v26 => .ret [v26]) (.pure (.bin .eql 364 (.tmp 20) (.const (.int .i64 2)) v20 (.int .i64 2)) fun v28 => .ite v28 (.pure (.fieldA 98 v2 1) fun v29 =>
  .look (.load 3 v29) fun v30 => .op [] (.callv (.func (.func 234) #[] #[]) #[v30, a1]) fun v32 => .ret [v32]) (.pure (.bin .eql 364 (.tmp 20) (.const (.int .i64 4)) v20 (.int .i64
  4)) fun v34 => .ite v34 (.pure (.fieldA 98 v2 6) fun v35 => .look (.load 3 v35) fun v36 => .op [] (.callv (.func (.func 234) #[] #[]) #[v36, a1]) fun v38 => .ret [v38]) (.pure
  (.bin .eql 364 (.tmp 20) (.const (.int .i64 3)) v20 (.int .i64 3)) fun v40 => .ite v40 (.join (.pure (.fieldA 98 v2 6) fun v41 => .look (.load 3 v41) fun v42 => .pure (.bin .geq
  3 (.tmp 42) (.const (.int .i64 0)) v42 (.int .i64 0)) fun v43 => .ite v43 (.pure (.fieldA 98 v2 1) fun v45 => .look (.load 3 v45) fun v46 => .op [] (.callv (.func (.func 234) #[]
  #[]) #[v46, a1]) fun v48 => .pure (.bin .gtr 3 (.tmp 48) (.const (.int .i64 0)) v48 (.int .i64 0)) fun v49 => .leaf none [v49]) (.leaf none [(.bool false)])) fun e s2 => onE e
  (.ite (sl s2 0) (.pure (.fieldA 98 v2 1) fun v51 => .look (.load 3 v51) fun v52 => .pure (.fieldA 98 v2 6) fun v53 => .look (.load 3 v53) fun v54 => .pure (.bin .rem 3 (.tmp 54)
  (.tmp 55) v54 a1) fun v56 => .pure (.bin .add 3 (.tmp 52) (.tmp 56) v52 v56) fun v57 => .pure (.bin .rem 3 (.tmp 57) (.tmp 58) v57 a1) fun v59 => .pure (.bin .add 3 (.tmp 59)
  (.const (.int .i64 1)) v59 (.int .i64 1)) fun v60 => .ret [v60]) (.ret [(.int .i64 (-1))])) fun _ => .bad) (.ret [(.int .i64 (-1))]))))))) fun _ => .bad
theorem tree175 (a0 a1 : Value) : treeF cfg175 Go.Proofs.Tryz.f175 [a0, a1] = t175 a0 a1 := by kernel_rfl
theorem calls175 (a0 a1 : Value) {H : Heap} {Q : Value → Heap → Prop} (h : wpH Go.Proofs.Tryz.prog (fun vs H' => Q (retVal vs) H') (t175 a0 a1) (fun _ _ _ => False) H) : CallsH Go.Proofs.Tryz.prog 175 #[a0, a1] H Q :=
  callsH_of_tree cfg175 mixed Go.Proofs.Tryz.func175 (by rw [tree175]; exact h)

/-- hostler/mach.of -/
def cfg233 : Cfg := ⟨tyInts, tyMaps, [], [(1, [9])], []⟩
def t233 (a0 : Value) : T := .op [] (.alloc 366) fun v2 => .join (.pure (.bin .lss 92 (.tmp 4) (.const (.int .i64 0)) a0 (.int .i64 0)) fun v5 => .ite v5 (.leaf none [(.bool
  true)]) (.pure (.bin .geq 3 (.tmp 7) (.const (.int .i64 31)) a0 (.int .i64 31)) fun v8 => .leaf none [v8])) fun e s1 => onE e (.ite (sl s1 0) (.pure (.build 366 #[]) fun v10 =>
  .op [] (.store 366 v2 v10) fun _ => .look (.resv 366 v2) fun r0 => .ret [r0, (.bool false)]) (.pure (.indexA 402 (.pointer (some ⟨2, 0, none⟩)) a0) fun v12 => .look (.load 366
  v12) fun v13 => .op [] (.store 366 v2 v13) fun _ => .look (.resv 366 v2) fun r0 => .ret [r0, (.bool true)])) fun _ => .bad
theorem tree233 (a0 : Value) : treeF cfg233 Go.Proofs.Tryz.f233 [a0] = t233 a0 := by kernel_rfl
theorem calls233 (a0 : Value) {H : Heap} {Q : Value → Heap → Prop} (h : wpH Go.Proofs.Tryz.prog (fun vs H' => Q (retVal vs) H') (t233 a0) (fun _ _ _ => False) H) : CallsH Go.Proofs.Tryz.prog 233 #[a0] H Q :=
  callsH_of_tree cfg233 mixed Go.Proofs.Tryz.func233 (by rw [tree233]; exact h)

/-- hostler/mach.ring -/
def cfg234 : Cfg := ⟨tyInts, tyMaps, [], [(1, [11])], []⟩
def t234 (a0 a1 : Value) : T := .join (.pure (.bin .lss 3 (.tmp 5) (.const (.int .i64 0)) a0 (.int .i64 0)) fun v6 => .ite v6 (.leaf none [(.bool true)]) (.pure (.bin .geq 3 (.tmp
  8) (.tmp 9) a0 a1) fun v10 => .leaf none [v10])) fun e s1 => onE e (.ite (sl s1 0) (.ret [(.int .i64 (-1))]) (.pure (.bin .add 3 (.tmp 12) (.const (.int .i64 1)) a0 (.int .i64
  1)) fun v13 => .ret [v13])) fun _ => .bad
theorem tree234 (a0 a1 : Value) : treeF cfg234 Go.Proofs.Tryz.f234 [a0, a1] = t234 a0 a1 := by kernel_rfl
theorem calls234 (a0 a1 : Value) {H : Heap} {Q : Value → Heap → Prop} (h : wpH Go.Proofs.Tryz.prog (fun vs H' => Q (retVal vs) H') (t234 a0 a1) (fun _ _ _ => False) H) : CallsH Go.Proofs.Tryz.prog 234 #[a0, a1] H Q :=
  callsH_of_tree cfg234 mixed Go.Proofs.Tryz.func234 (by rw [tree234]; exact h)

/-- slices.Equal[[]uint64,uint64] -/
def cfg116 : Cfg := ⟨tyInts, tyMaps, [], [], [(4, [13])]⟩
def t116 (a0 a1 : Value) : T := .pure (.builtin .len #[200] 3 #[false] #[a0]) fun v7 => .pure (.builtin .len #[200] 3 #[false] #[a1]) fun v9 => .pure (.bin .neq 3 (.tmp 7) (.tmp 9)
  v7 v9) fun v10 => .ite v10 (.ret [(.bool false)]) (.pure (.builtin .len #[200] 3 #[false] #[a0]) fun v12 => .loop [(.int .i64 0)] (fun s1 => .pure (.bin .lss 3 (.tmp 13) (.tmp
  12) (sl s1 0) v12) fun v14 => .ite v14 (.pure (.indexA 200 a0 (sl s1 0)) fun v18 => .look (.load 81 v18) fun v19 => .pure (.indexA 200 a1 (sl s1 0)) fun v22 => .look (.load 81
  v22) fun v23 => .pure (.bin .neq 81 (.tmp 19) (.tmp 23) v19 v23) fun v24 => .ite v24 (.ret [(.bool false)]) (.pure (.bin .add 3 (.tmp 13) (.const (.int .i64 1)) (sl s1 0) (.int
  .i64 1)) fun v25 => .leaf none [v25])) (.leaf (some 0) [(sl s1 0)])) (fun x _ => (if Nat.beq x 0 then .ret [(.bool true)] else .bad)))
theorem tree116 (a0 a1 : Value) : treeF cfg116 Go.Proofs.Tryz.f116 [a0, a1] = t116 a0 a1 := by kernel_rfl
theorem calls116 (a0 a1 : Value) {H : Heap} {Q : Value → Heap → Prop} (h : wpH Go.Proofs.Tryz.prog (fun vs H' => Q (retVal vs) H') (t116 a0 a1) (fun _ _ _ => False) H) : CallsH Go.Proofs.Tryz.prog 116 #[a0, a1] H Q :=
  callsH_of_tree cfg116 mixed Go.Proofs.Tryz.func116 (by rw [tree116]; exact h)

/-- slices.Clone[[]int,int] -/
def cfg134 : Cfg := ⟨tyInts, tyMaps, [], [], []⟩
def t134 (a0 : Value) : T := .pure (.bin .eql 33 (.tmp 3) (.const (.slice none 0 0)) a0 (.slice none 0 0)) fun v4 => .ite v4 (.ret [(.slice none 0 0)]) (.op [] (.buildSlice 33 0
  #[]) fun v5 => .op [] (.builtin .append #[33, 33] 33 #[false, false] #[v5, a0]) fun v7 => .ret [v7])
theorem tree134 (a0 : Value) : treeF cfg134 Go.Proofs.Tryz.f134 [a0] = t134 a0 := by kernel_rfl
theorem calls134 (a0 : Value) {H : Heap} {Q : Value → Heap → Prop} (h : wpH Go.Proofs.Tryz.prog (fun vs H' => Q (retVal vs) H') (t134 a0) (fun _ _ _ => False) H) : CallsH Go.Proofs.Tryz.prog 134 #[a0] H Q :=
  callsH_of_tree cfg134 mixed Go.Proofs.Tryz.func134 (by rw [tree134]; exact h)

/-- slices.Contains[[]hostler/status.Status,hostler/status.Status] -/
def cfg146 : Cfg := ⟨tyInts, tyMaps, [], [], []⟩
def t146 (a0 a1 : Value) : T := .op [] (.callv (.func (.func 210) #[] #[]) #[a0, a1]) fun v7 => .pure (.bin .geq 3 (.tmp 7) (.const (.int .i64 0)) v7 (.int .i64 0)) fun v8 => .ret
  [v8]
theorem tree146 (a0 a1 : Value) : treeF cfg146 Go.Proofs.Tryz.f146 [a0, a1] = t146 a0 a1 := by kernel_rfl
theorem calls146 (a0 a1 : Value) {H : Heap} {Q : Value → Heap → Prop} (h : wpH Go.Proofs.Tryz.prog (fun vs H' => Q (retVal vs) H') (t146 a0 a1) (fun _ _ _ => False) H) : CallsH Go.Proofs.Tryz.prog 146 #[a0, a1] H Q :=
  callsH_of_tree cfg146 mixed Go.Proofs.Tryz.func146 (by rw [tree146]; exact h)

/-- slices.Clone[[]hostler/event.Event,hostler/event.Event] -/
def cfg184 : Cfg := ⟨tyInts, tyMaps, [], [], []⟩
def t184 (a0 : Value) : T := .pure (.bin .eql 60 (.tmp 3) (.const (.slice none 0 0)) a0 (.slice none 0 0)) fun v4 => .ite v4 (.ret [(.slice none 0 0)]) (.op [] (.buildSlice 60 0
  #[]) fun v5 => .op [] (.builtin .append #[60, 60] 60 #[false, false] #[v5, a0]) fun v7 => .ret [v7])
theorem tree184 (a0 : Value) : treeF cfg184 Go.Proofs.Tryz.f184 [a0] = t184 a0 := by kernel_rfl
theorem calls184 (a0 : Value) {H : Heap} {Q : Value → Heap → Prop} (h : wpH Go.Proofs.Tryz.prog (fun vs H' => Q (retVal vs) H') (t184 a0) (fun _ _ _ => False) H) : CallsH Go.Proofs.Tryz.prog 184 #[a0] H Q :=
  callsH_of_tree cfg184 mixed Go.Proofs.Tryz.func184 (by rw [tree184]; exact h)

/-- slices.Clone[[]uint64,uint64] -/
def cfg185 : Cfg := ⟨tyInts, tyMaps, [], [], []⟩
def t185 (a0 : Value) : T := .pure (.bin .eql 200 (.tmp 3) (.const (.slice none 0 0)) a0 (.slice none 0 0)) fun v4 => .ite v4 (.ret [(.slice none 0 0)]) (.op [] (.buildSlice 200 0
  #[]) fun v5 => .op [] (.builtin .append #[200, 200] 200 #[false, false] #[v5, a0]) fun v7 => .ret [v7])
theorem tree185 (a0 : Value) : treeF cfg185 Go.Proofs.Tryz.f185 [a0] = t185 a0 := by kernel_rfl
theorem calls185 (a0 : Value) {H : Heap} {Q : Value → Heap → Prop} (h : wpH Go.Proofs.Tryz.prog (fun vs H' => Q (retVal vs) H') (t185 a0) (fun _ _ _ => False) H) : CallsH Go.Proofs.Tryz.prog 185 #[a0] H Q :=
  callsH_of_tree cfg185 mixed Go.Proofs.Tryz.func185 (by rw [tree185]; exact h)

/-- slices.Index[[]hostler/status.Status,hostler/status.Status] -/
def cfg210 : Cfg := ⟨tyInts, tyMaps, [], [], [(2, [8])]⟩
def t210 (a0 a1 : Value) : T := .pure (.builtin .len #[210] 3 #[false] #[a0]) fun v7 => .loop [(.int .i64 0)] (fun s1 => .pure (.bin .lss 3 (.tmp 8) (.tmp 7) (sl s1 0) v7) fun v9
  => .ite v9 (.pure (.indexA 210 a0 (sl s1 0)) fun v14 => .look (.load 82 v14) fun v15 => .pure (.bin .eql 82 (.tmp 11) (.tmp 15) a1 v15) fun v16 => .ite v16 (.ret [(sl s1 0)])
  (.pure (.bin .add 3 (.tmp 8) (.const (.int .i64 1)) (sl s1 0) (.int .i64 1)) fun v18 => .leaf none [v18])) (.leaf (some 0) [(sl s1 0)])) (fun x _ => (if Nat.beq x 0 then .ret
  [(.int .i64 (-1))] else .bad))
theorem tree210 (a0 a1 : Value) : treeF cfg210 Go.Proofs.Tryz.f210 [a0, a1] = t210 a0 a1 := by kernel_rfl
theorem calls210 (a0 a1 : Value) {H : Heap} {Q : Value → Heap → Prop} (h : wpH Go.Proofs.Tryz.prog (fun vs H' => Q (retVal vs) H') (t210 a0 a1) (fun _ _ _ => False) H) : CallsH Go.Proofs.Tryz.prog 210 #[a0, a1] H Q :=
  callsH_of_tree cfg210 mixed Go.Proofs.Tryz.func210 (by rw [tree210]; exact h)

/-- slices.Contains[[]int,int] -/
def cfg215 : Cfg := ⟨tyInts, tyMaps, [], [], []⟩
def t215 (a0 a1 : Value) : T := .op [] (.callv (.func (.func 261) #[] #[]) #[a0, a1]) fun v7 => .pure (.bin .geq 3 (.tmp 7) (.const (.int .i64 0)) v7 (.int .i64 0)) fun v8 => .ret
  [v8]
theorem tree215 (a0 a1 : Value) : treeF cfg215 Go.Proofs.Tryz.f215 [a0, a1] = t215 a0 a1 := by kernel_rfl
theorem calls215 (a0 a1 : Value) {H : Heap} {Q : Value → Heap → Prop} (h : wpH Go.Proofs.Tryz.prog (fun vs H' => Q (retVal vs) H') (t215 a0 a1) (fun _ _ _ => False) H) : CallsH Go.Proofs.Tryz.prog 215 #[a0, a1] H Q :=
  callsH_of_tree cfg215 mixed Go.Proofs.Tryz.func215 (by rw [tree215]; exact h)

/-- math/bits.OnesCount64 -/
def cfg221 : Cfg := ⟨tyInts, tyMaps, [], [], []⟩
def t221 (a0 : Value) : T := .pure (.bin .shr 81 (.tmp 3) (.const (.int .u64 1)) a0 (.int .u64 1)) fun v4 => .pure (.bin .and 81 (.tmp 4) (.const (.int .u64 6148914691236517205))
  v4 (.int .u64 6148914691236517205)) fun v5 => .pure (.bin .and 81 (.tmp 6) (.const (.int .u64 6148914691236517205)) a0 (.int .u64 6148914691236517205)) fun v7 => .pure (.bin .add
  81 (.tmp 5) (.tmp 7) v5 v7) fun v8 => .pure (.bin .shr 81 (.tmp 9) (.const (.int .u64 2)) v8 (.int .u64 2)) fun v10 => .pure (.bin .and 81 (.tmp 10) (.const (.int .u64
  3689348814741910323)) v10 (.int .u64 3689348814741910323)) fun v11 => .pure (.bin .and 81 (.tmp 12) (.const (.int .u64 3689348814741910323)) v8 (.int .u64 3689348814741910323))
  fun v13 => .pure (.bin .add 81 (.tmp 11) (.tmp 13) v11 v13) fun v14 => .pure (.bin .shr 81 (.tmp 15) (.const (.int .u64 4)) v14 (.int .u64 4)) fun v16 => .pure (.bin .add 81
  (.tmp 16) (.tmp 17) v16 v14) fun v18 => .pure (.bin .and 81 (.tmp 18) (.const (.int .u64 1085102592571150095)) v18 (.int .u64 1085102592571150095)) fun v19 => .pure (.bin .shr 81
  (.tmp 21) (.const (.int .u64 8)) v19 (.int .u64 8)) fun v22 => .pure (.bin .add 81 (.tmp 20) (.tmp 22) v19 v22) fun v23 => .pure (.bin .shr 81 (.tmp 25) (.const (.int .u64 16))
  v23 (.int .u64 16)) fun v26 => .pure (.bin .add 81 (.tmp 24) (.tmp 26) v23 v26) fun v27 => .pure (.bin .shr 81 (.tmp 29) (.const (.int .u64 32)) v27 (.int .u64 32)) fun v30 =>
  .pure (.bin .add 81 (.tmp 28) (.tmp 30) v27 v30) fun v31 => .pure (.conv 81 3 v31) fun v33 => .pure (.bin .and 3 (.tmp 33) (.const (.int .i64 127)) v33 (.int .i64 127)) fun v34
  => .ret [v34]
theorem tree221 (a0 : Value) : treeF cfg221 Go.Proofs.Tryz.f221 [a0] = t221 a0 := by kernel_rfl
theorem calls221 (a0 : Value) {H : Heap} {Q : Value → Heap → Prop} (h : wpH Go.Proofs.Tryz.prog (fun vs H' => Q (retVal vs) H') (t221 a0) (fun _ _ _ => False) H) : CallsH Go.Proofs.Tryz.prog 221 #[a0] H Q :=
  callsH_of_tree cfg221 mixed Go.Proofs.Tryz.func221 (by rw [tree221]; exact h)

/-- slices.Index[[]int,int] -/
def cfg261 : Cfg := ⟨tyInts, tyMaps, [], [], [(2, [8])]⟩
def t261 (a0 a1 : Value) : T := .pure (.builtin .len #[33] 3 #[false] #[a0]) fun v7 => .loop [(.int .i64 0)] (fun s1 => .pure (.bin .lss 3 (.tmp 8) (.tmp 7) (sl s1 0) v7) fun v9 =>
  .ite v9 (.pure (.indexA 33 a0 (sl s1 0)) fun v14 => .look (.load 3 v14) fun v15 => .pure (.bin .eql 3 (.tmp 11) (.tmp 15) a1 v15) fun v16 => .ite v16 (.ret [(sl s1 0)]) (.pure
  (.bin .add 3 (.tmp 8) (.const (.int .i64 1)) (sl s1 0) (.int .i64 1)) fun v18 => .leaf none [v18])) (.leaf (some 0) [(sl s1 0)])) (fun x _ => (if Nat.beq x 0 then .ret [(.int
  .i64 (-1))] else .bad))
theorem tree261 (a0 a1 : Value) : treeF cfg261 Go.Proofs.Tryz.f261 [a0, a1] = t261 a0 a1 := by kernel_rfl
theorem calls261 (a0 a1 : Value) {H : Heap} {Q : Value → Heap → Prop} (h : wpH Go.Proofs.Tryz.prog (fun vs H' => Q (retVal vs) H') (t261 a0 a1) (fun _ _ _ => False) H) : CallsH Go.Proofs.Tryz.prog 261 #[a0, a1] H Q :=
  callsH_of_tree cfg261 mixed Go.Proofs.Tryz.func261 (by rw [tree261]; exact h)

/-- slices.Clone[[]hostler/heap.Entry,hostler/heap.Entry] -/
def cfg293 : Cfg := ⟨tyInts, tyMaps, [], [], []⟩
def t293 (a0 : Value) : T := .pure (.bin .eql 379 (.tmp 3) (.const (.slice none 0 0)) a0 (.slice none 0 0)) fun v4 => .ite v4 (.ret [(.slice none 0 0)]) (.op [] (.buildSlice 379 0
  #[]) fun v5 => .op [] (.builtin .append #[379, 379] 379 #[false, false] #[v5, a0]) fun v7 => .ret [v7])
theorem tree293 (a0 : Value) : treeF cfg293 Go.Proofs.Tryz.f293 [a0] = t293 a0 := by kernel_rfl
theorem calls293 (a0 : Value) {H : Heap} {Q : Value → Heap → Prop} (h : wpH Go.Proofs.Tryz.prog (fun vs H' => Q (retVal vs) H') (t293 a0) (fun _ _ _ => False) H) : CallsH Go.Proofs.Tryz.prog 293 #[a0] H Q :=
  callsH_of_tree cfg293 mixed Go.Proofs.Tryz.func293 (by rw [tree293]; exact h)

/-- slices.Delete[[]int,int] -/
def cfg326 : Cfg := ⟨tyInts, tyMaps, [], [], []⟩
def t326 (a0 a1 a2 : Value) : T := .pure (.builtin .len #[33] 3 #[false] #[a0]) fun v12 => .pure (.slice 33 a0 (some a1) (some a2) (some v12)) fun _ => .pure (.bin .eql 3 (.tmp 14)
  (.tmp 15) a1 a2) fun v16 => .ite v16 (.ret [a0]) (.pure (.builtin .len #[33] 3 #[false] #[a0]) fun v19 => .pure (.slice 33 a0 none (some a1) none) fun v22 => .pure (.slice 33 a0
  (some a2) none none) fun v25 => .op [] (.builtin .append #[33, 33] 33 #[false, false] #[v22, v25]) fun v26 => .pure (.builtin .len #[33] 3 #[false] #[v26]) fun v29 => .pure
  (.slice 33 v26 (some v29) (some v19) none) fun v31 => .op [] (.builtin .clear #[33] 0 #[false] #[v31]) fun _ => .ret [v26])
theorem tree326 (a0 a1 a2 : Value) : treeF cfg326 Go.Proofs.Tryz.f326 [a0, a1, a2] = t326 a0 a1 a2 := by kernel_rfl
theorem calls326 (a0 a1 a2 : Value) {H : Heap} {Q : Value → Heap → Prop} (h : wpH Go.Proofs.Tryz.prog (fun vs H' => Q (retVal vs) H') (t326 a0 a1 a2) (fun _ _ _ => False) H) : CallsH Go.Proofs.Tryz.prog 326 #[a0, a1, a2] H Q :=
  callsH_of_tree cfg326 mixed Go.Proofs.Tryz.func326 (by rw [tree326]; exact h)

/-- math/bits.TrailingZeros -/
def cfg354 : Cfg := ⟨tyInts, tyMaps, [], [], []⟩
def t354 (a0 : Value) : T := .op [] (.callv (.func (.func 369) #[] #[]) #[a0]) fun v7 => .ret [v7]
theorem tree354 (a0 : Value) : treeF cfg354 Go.Proofs.Tryz.f354 [a0] = t354 a0 := by kernel_rfl
theorem calls354 (a0 : Value) {H : Heap} {Q : Value → Heap → Prop} (h : wpH Go.Proofs.Tryz.prog (fun vs H' => Q (retVal vs) H') (t354 a0) (fun _ _ _ => False) H) : CallsH Go.Proofs.Tryz.prog 354 #[a0] H Q :=
  callsH_of_tree cfg354 mixed Go.Proofs.Tryz.func354 (by rw [tree354]; exact h)

/-- math/bits.TrailingZeros64 -/
def cfg369 : Cfg := ⟨tyInts, tyMaps, [], [], []⟩
def t369 (a0 : Value) : T := .pure (.bin .eql 81 (.tmp 3) (.const (.int .u64 0)) a0 (.int .u64 0)) fun v4 => .ite v4 (.ret [(.int .i64 64)]) (.pure (.un .neg a0) fun v7 => .pure
  (.bin .and 81 (.tmp 5) (.tmp 7) a0 v7) fun v8 => .pure (.bin .mul 81 (.tmp 8) (.const (.int .u64 285870213051353865)) v8 (.int .u64 285870213051353865)) fun v9 => .pure (.bin
  .shr 81 (.tmp 9) (.const (.int .u64 58)) v9 (.int .u64 58)) fun v10 => .pure (.indexA 490 (.pointer (some ⟨5, 0, none⟩)) v10) fun v11 => .look (.load 5 v11) fun v12 => .pure
  (.conv 5 3 v12) fun v13 => .ret [v13])
theorem tree369 (a0 : Value) : treeF cfg369 Go.Proofs.Tryz.f369 [a0] = t369 a0 := by kernel_rfl
theorem calls369 (a0 : Value) {H : Heap} {Q : Value → Heap → Prop} (h : wpH Go.Proofs.Tryz.prog (fun vs H' => Q (retVal vs) H') (t369 a0) (fun _ _ _ => False) H) : CallsH Go.Proofs.Tryz.prog 369 #[a0] H Q :=
  callsH_of_tree cfg369 mixed Go.Proofs.Tryz.func369 (by rw [tree369]; exact h)

end Go.Tr
