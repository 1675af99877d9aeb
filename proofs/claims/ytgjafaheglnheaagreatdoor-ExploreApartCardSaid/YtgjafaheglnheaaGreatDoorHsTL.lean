/- The trees of Go functions of this program, each with the equation that says so and the law that leads from a proof over the tree to the call. Written by a program of this session; no condition. -/
import Derived.Test.YtgjafaheglnheaaGreatDoorHsBase
set_option maxRecDepth 100000
namespace Go.Tr
/-- hostler/hostlerlaw20.Lives -/
def cfg39 : Cfg := ⟨tyInts, tyMaps, [], [(2, [13]), (9, [0])], [(5, [14])]⟩
def t39 : T := .pure (.build 24 #[(0, (.int .i64 1)), (1, (.int .i64 1)), (2, (.int .i64 1))]) fun v4 => .op [] (.callv (.func (.func 90) #[] #[]) #[v4]) fun v5 => .pure (.extract
  v5 0) fun v6 => .pure (.extract v5 1) fun v7 => .join (.pure (.bin .neq 149 (.tmp 8) (.const (.int .i64 0)) v7 (.int .i64 0)) fun v9 => .ite v9 (.leaf none [(.bool true)]) (.pure
  (.bin .eql 57 (.tmp 11) (.const (.pointer none)) v6 (.pointer none)) fun v12 => .leaf none [v12])) fun e s1 => onE e (.ite (sl s1 0) (.ret [(.bool false)]) (.loop [(.int .i64 0)]
  (fun s2 => .pure (.bin .lss 3 (.tmp 14) (.const (.int .i64 10)) (sl s2 0) (.int .i64 10)) fun v15 => .ite v15 (.pure (.build 40 #[]) fun v17 => .op [] (.callv (.func (.func 41)
  #[] #[]) #[v6, v17]) fun v18 => .pure (.un .not v18) fun v19 => .ite v19 (.ret [(.bool false)]) (.pure (.bin .add 3 (.tmp 14) (.const (.int .i64 1)) (sl s2 0) (.int .i64 1)) fun
  v20 => .leaf none [v20])) (.leaf (some 0) [(sl s2 0)])) (fun x _ => (if Nat.beq x 0 then .join (.op [] (.callv (.func (.func 66) #[] #[]) #[v6, (.int .i64 0)]) fun v22 => .pure
  (.fieldV 98 v22 2) fun v23 => .pure (.bin .eql 3 (.tmp 23) (.const (.int .i64 0)) v23 (.int .i64 0)) fun v24 => .ite v24 (.op [] (.callv (.func (.func 66) #[] #[]) #[v6, (.int
  .i64 0)]) fun v27 => .pure (.fieldV 98 v27 0) fun v28 => .pure (.bin .eql 92 (.tmp 28) (.const (.int .i64 0)) v28 (.int .i64 0)) fun v29 => .ite v29 (.op [] (.callv (.func (.func
  58) #[] #[]) #[v6, (.int .i64 0)]) fun v33 => .pure (.bin .eql 82 (.tmp 33) (.const (.int .u64 2)) v33 (.int .u64 2)) fun v34 => .ite v34 (.op [] (.callv (.func (.func 42) #[]
  #[]) #[v6]) fun v38 => .pure (.builtin .len #[60] 3 #[false] #[v38]) fun v39 => .pure (.bin .eql 3 (.tmp 39) (.const (.int .i64 2)) v39 (.int .i64 2)) fun v40 => .leaf none
  [v40]) (.leaf none [(.bool false)])) (.leaf none [(.bool false)])) (.leaf none [(.bool false)])) fun e s4 => onE e (.ret [(sl s4 0)]) fun _ => .bad else .bad)))) fun _ => .bad
theorem tree39 : treeF cfg39 Go.Proofs.Tryz.f39 [] = t39  := by kernel_rfl
theorem calls39 {H : Heap} {Q : Value → Heap → Prop} (h : wpH Go.Proofs.Tryz.prog (fun vs H' => Q (retVal vs) H') (t39 ) (fun _ _ _ => False) H) : CallsH Go.Proofs.Tryz.prog 39 #[] H Q :=
  callsH_of_tree cfg39 mixed Go.Proofs.Tryz.func39 (by rw [tree39]; exact h)

/-- hostler/hostlerlaw20.Begin -/
def cfg40 : Cfg := ⟨tyInts, tyMaps, [], [], []⟩
def t40 (a0 a1 a2 : Value) : T := .op [] (.callv (.func (.func 100) #[] #[]) #[a0, a1, a2]) fun v13 => .op [] (.callv (.func (.func 90) #[] #[]) #[v13]) fun v14 => .pure (.extract
  v14 0) fun v15 => .pure (.extract v14 1) fun v16 => .pure (.bin .neq 149 (.tmp 17) (.const (.int .i64 0)) v16 (.int .i64 0)) fun v18 => .ite v18 (.ret [(.pointer none)]) (.ret
  [v15])
theorem tree40 (a0 a1 a2 : Value) : treeF cfg40 Go.Proofs.Tryz.f40 [a0, a1, a2] = t40 a0 a1 a2 := by kernel_rfl
theorem calls40 (a0 a1 a2 : Value) {H : Heap} {Q : Value → Heap → Prop} (h : wpH Go.Proofs.Tryz.prog (fun vs H' => Q (retVal vs) H') (t40 a0 a1 a2) (fun _ _ _ => False) H) : CallsH Go.Proofs.Tryz.prog 40 #[a0, a1, a2] H Q :=
  callsH_of_tree cfg40 mixed Go.Proofs.Tryz.func40 (by rw [tree40]; exact h)

/-- hostler/hostlerlaw20.Small -/
def cfg100 : Cfg := ⟨tyInts, tyMaps, [], [], []⟩
def t100 (a0 a1 a2 : Value) : T := .op [] (.alloc 24) fun v6 => .pure (.bin .rem 5 (.tmp 8) (.const (.int .u8 4)) a0 (.int .u8 4)) fun v9 => .pure (.conv 5 3 v9) fun v10 => .pure
  (.bin .add 3 (.const (.int .i64 1)) (.tmp 10) (.int .i64 1) v10) fun v11 => .pure (.bin .rem 5 (.tmp 14) (.const (.int .u8 3)) a1 (.int .u8 3)) fun v15 => .pure (.conv 5 3 v15)
  fun v16 => .pure (.bin .add 3 (.tmp 13) (.tmp 16) v11 v16) fun v17 => .pure (.bin .rem 5 (.tmp 18) (.const (.int .u8 12)) a2 (.int .u8 12)) fun v19 => .pure (.conv 5 3 v19) fun
  v20 => .pure (.bin .add 3 (.const (.int .i64 1)) (.tmp 20) (.int .i64 1) v20) fun v21 => .pure (.build 24 #[(0, v11), (1, v17), (2, v21)]) fun v22 => .op [] (.store 24 v6 v22)
  fun _ => .look (.resv 24 v6) fun r0 => .ret [r0]
theorem tree100 (a0 a1 a2 : Value) : treeF cfg100 Go.Proofs.Tryz.f100 [a0, a1, a2] = t100 a0 a1 a2 := by kernel_rfl
theorem calls100 (a0 a1 a2 : Value) {H : Heap} {Q : Value → Heap → Prop} (h : wpH Go.Proofs.Tryz.prog (fun vs H' => Q (retVal vs) H') (t100 a0 a1 a2) (fun _ _ _ => False) H) : CallsH Go.Proofs.Tryz.prog 100 #[a0, a1, a2] H Q :=
  callsH_of_tree cfg100 mixed Go.Proofs.Tryz.func100 (by rw [tree100]; exact h)

/-- hostler/hostlerlaw24.BoundNumbers -/
def cfg3 : Cfg := ⟨tyInts, tyMaps, [], [(5, [37]), (7, [8])], []⟩
def t3 (a0 a1 a2 a3 : Value) : T := .op [] (.callv (.func (.func 23) #[] #[]) #[]) fun v12 => .pure (.un .not v12) fun v13 => .ite v13 (.ret [(.bool false)]) (.pure (.build 24
  #[(0, a0), (1, a1), (2, a2)]) fun v17 => .op [] (.alloc 24) fun v9 => .op [] (.store 24 v9 v17) fun _ => .look (.load 24 v9) fun v18 => .look (.load 24 v9) fun v20 => .op [(.load
  24 v9, v20)] (.callv (.func (.func 24) #[] #[]) #[v18]) fun v19 => .op [] (.callv (.func (.func 25) #[] #[]) #[v20, a3]) fun v22 => .join (.op [] (.callv (.func (.func 26) #[]
  #[]) #[a0, a1, a2]) fun v27 => .pure (.bin .neq 3 (.tmp 23) (.tmp 27) v19 v27) fun v28 => .ite v28 (.leaf none [(.bool true)]) (.op [] (.callv (.func (.func 27) #[] #[]) #[a0,
  a1, a2, a3]) fun v35 => .pure (.bin .neq 3 (.tmp 30) (.tmp 35) v22 v35) fun v36 => .leaf none [v36])) fun e s1 => onE e (.ite (sl s1 0) (.ret [(.bool false)]) (.join (.op []
  (.callv (.func (.func 28) #[] #[]) #[a0, a1, a2]) fun v41 => .pure (.un .not v41) fun v42 => .ite v42 (.leaf none [(.bool true)]) (.pure (.bin .gtr 3 (.tmp 44) (.const (.int .i64
  0)) v19 (.int .i64 0)) fun v45 => .ite v45 (.pure (.bin .gtr 3 (.tmp 47) (.const (.int .i64 0)) v22 (.int .i64 0)) fun v48 => .ite v48 (.look (.load 24 v9) fun v51 => .pure
  (.builtin .min #[3, 3] 3 #[false, true] #[a3, (.int .i64 1073741824)]) fun v53 => .pure (.bin .add 3 (.tmp 53) (.const (.int .i64 1)) v53 (.int .i64 1)) fun v54 => .op [] (.callv
  (.func (.func 25) #[] #[]) #[v51, v54]) fun v55 => .pure (.bin .geq 3 (.tmp 55) (.tmp 56) v55 v22) fun v57 => .leaf none [v57]) (.leaf none [(.bool false)])) (.leaf none [(.bool
  false)]))) fun e s2 => onE e (.ret [(sl s2 0)]) fun _ => .bad)) fun _ => .bad)
theorem tree3 (a0 a1 a2 a3 : Value) : treeF cfg3 Go.Proofs.Tryz.f3 [a0, a1, a2, a3] = t3 a0 a1 a2 a3 := by kernel_rfl
theorem calls3 (a0 a1 a2 a3 : Value) {H : Heap} {Q : Value → Heap → Prop} (h : wpH Go.Proofs.Tryz.prog (fun vs H' => Q (retVal vs) H') (t3 a0 a1 a2 a3) (fun _ _ _ => False) H) : CallsH Go.Proofs.Tryz.prog 3 #[a0, a1, a2, a3] H Q :=
  callsH_of_tree cfg3 mixed Go.Proofs.Tryz.func3 (by rw [tree3]; exact h)

/-- hostler/bound.B -/
def cfg24 : Cfg := ⟨tyInts, tyMaps, [], [], []⟩
def t24 (a0 : Value) : T := .op [] (.box 24 a0) fun v1 => .look (.load 24 v1) fun v3 => .op [] (.callv (.func (.func 105) #[] #[]) #[v3]) fun v4 => .pure (.un .not v4) fun v5 =>
  .ite v5 (.ret [(.int .i64 0)]) (.pure (.fieldA 24 v1 1) fun v6 => .look (.load 3 v6) fun v7 => .pure (.bin .add 3 (.tmp 7) (.const (.int .i64 4)) v7 (.int .i64 4)) fun v8 =>
  .pure (.bin .mul 3 (.const (.int .i64 64)) (.tmp 8) (.int .i64 64) v8) fun v9 => .pure (.fieldA 24 v1 0) fun v10 => .look (.load 3 v10) fun v11 => .pure (.bin .add 3 (.tmp 11)
  (.const (.int .i64 8)) v11 (.int .i64 8)) fun v12 => .pure (.fieldA 24 v1 0) fun v13 => .look (.load 3 v13) fun v14 => .pure (.bin .add 3 (.tmp 14) (.const (.int .i64 8)) v14
  (.int .i64 8)) fun v15 => .pure (.bin .mul 3 (.tmp 12) (.tmp 15) v12 v15) fun v16 => .pure (.fieldA 24 v1 2) fun v17 => .look (.load 3 v17) fun v18 => .pure (.bin .add 3 (.tmp
  16) (.tmp 18) v16 v18) fun v19 => .pure (.bin .mul 3 (.tmp 9) (.tmp 19) v9 v19) fun v20 => .ret [v20])
theorem tree24 (a0 : Value) : treeF cfg24 Go.Proofs.Tryz.f24 [a0] = t24 a0 := by kernel_rfl
theorem calls24 (a0 : Value) {H : Heap} {Q : Value → Heap → Prop} (h : wpH Go.Proofs.Tryz.prog (fun vs H' => Q (retVal vs) H') (t24 a0) (fun _ _ _ => False) H) : CallsH Go.Proofs.Tryz.prog 24 #[a0] H Q :=
  callsH_of_tree cfg24 mixed Go.Proofs.Tryz.func24 (by rw [tree24]; exact h)

/-- hostler/bound.F -/
def cfg25 : Cfg := ⟨tyInts, tyMaps, [], [], []⟩
def t25 (a0 a1 : Value) : T := .op [] (.box 24 a0) fun v2 => .look (.load 24 v2) fun v5 => .op [] (.callv (.func (.func 105) #[] #[]) #[v5]) fun v6 => .pure (.un .not v6) fun v7 =>
  .ite v7 (.ret [(.int .i64 0)]) (.pure (.fieldA 24 v2 2) fun v8 => .look (.load 3 v8) fun v9 => .pure (.bin .add 3 (.tmp 9) (.const (.int .i64 8)) v9 (.int .i64 8)) fun v10 =>
  .pure (.bin .mul 3 (.const (.int .i64 64)) (.tmp 10) (.int .i64 64) v10) fun v11 => .pure (.builtin .max #[3, 3] 3 #[true, false] #[(.int .i64 1), a1]) fun v13 => .pure (.builtin
  .min #[3, 3] 3 #[false, true] #[v13, (.int .i64 1048576)]) fun v14 => .pure (.bin .add 3 (.tmp 14) (.const (.int .i64 8)) v14 (.int .i64 8)) fun v15 => .pure (.bin .mul 3 (.tmp
  11) (.tmp 15) v11 v15) fun v16 => .pure (.fieldA 24 v2 1) fun v17 => .look (.load 3 v17) fun v18 => .pure (.bin .add 3 (.tmp 18) (.const (.int .i64 4)) v18 (.int .i64 4)) fun v19
  => .pure (.bin .mul 3 (.tmp 16) (.tmp 19) v16 v19) fun v20 => .pure (.fieldA 24 v2 0) fun v21 => .look (.load 3 v21) fun v22 => .pure (.bin .add 3 (.tmp 22) (.const (.int .i64
  8)) v22 (.int .i64 8)) fun v23 => .pure (.bin .mul 3 (.tmp 20) (.tmp 23) v20 v23) fun v24 => .ret [v24])
theorem tree25 (a0 a1 : Value) : treeF cfg25 Go.Proofs.Tryz.f25 [a0, a1] = t25 a0 a1 := by kernel_rfl
theorem calls25 (a0 a1 : Value) {H : Heap} {Q : Value → Heap → Prop} (h : wpH Go.Proofs.Tryz.prog (fun vs H' => Q (retVal vs) H') (t25 a0 a1) (fun _ _ _ => False) H) : CallsH Go.Proofs.Tryz.prog 25 #[a0, a1] H Q :=
  callsH_of_tree cfg25 mixed Go.Proofs.Tryz.func25 (by rw [tree25]; exact h)

/-- hostler/hostlerref24.B -/
def cfg26 : Cfg := ⟨tyInts, tyMaps, [], [], []⟩
def t26 (a0 a1 a2 : Value) : T := .op [] (.callv (.func (.func 28) #[] #[]) #[a0, a1, a2]) fun v10 => .pure (.un .not v10) fun v11 => .ite v11 (.ret [(.int .i64 0)]) (.pure (.bin
  .add 3 (.tmp 12) (.const (.int .i64 4)) a1 (.int .i64 4)) fun v13 => .pure (.bin .mul 3 (.const (.int .i64 64)) (.tmp 13) (.int .i64 64) v13) fun v14 => .pure (.bin .add 3 (.tmp
  15) (.const (.int .i64 8)) a0 (.int .i64 8)) fun v16 => .pure (.bin .add 3 (.tmp 17) (.const (.int .i64 8)) a0 (.int .i64 8)) fun v18 => .pure (.bin .mul 3 (.tmp 16) (.tmp 18)
  v16 v18) fun v19 => .pure (.bin .add 3 (.tmp 19) (.tmp 20) v19 a2) fun v21 => .pure (.bin .mul 3 (.tmp 14) (.tmp 21) v14 v21) fun v22 => .ret [v22])
theorem tree26 (a0 a1 a2 : Value) : treeF cfg26 Go.Proofs.Tryz.f26 [a0, a1, a2] = t26 a0 a1 a2 := by kernel_rfl
theorem calls26 (a0 a1 a2 : Value) {H : Heap} {Q : Value → Heap → Prop} (h : wpH Go.Proofs.Tryz.prog (fun vs H' => Q (retVal vs) H') (t26 a0 a1 a2) (fun _ _ _ => False) H) : CallsH Go.Proofs.Tryz.prog 26 #[a0, a1, a2] H Q :=
  callsH_of_tree cfg26 mixed Go.Proofs.Tryz.func26 (by rw [tree26]; exact h)

/-- hostler/hostlerref24.F -/
def cfg27 : Cfg := ⟨tyInts, tyMaps, [(5, [3]), (7, [3])], [], []⟩
def t27 (a0 a1 a2 a3 : Value) : T := .op [] (.callv (.func (.func 28) #[] #[]) #[a0, a1, a2]) fun v12 => .pure (.un .not v12) fun v13 => .ite v13 (.ret [(.int .i64 0)]) (.join
  (.pure (.bin .lss 3 (.tmp 14) (.const (.int .i64 1)) a3 (.int .i64 1)) fun v15 => .ite v15 (.leaf none [(.int .i64 1)]) (.leaf none [a3])) fun e s1 => onE e (.join (.pure (.bin
  .gtr 3 (.tmp 16) (.const (.int .i64 1048576)) (sl s1 0) (.int .i64 1048576)) fun v17 => .ite v17 (.leaf none [(.int .i64 1048576)]) (.leaf none [(sl s1 0)])) fun e s2 => onE e
  (.pure (.bin .add 3 (.tmp 18) (.const (.int .i64 8)) a2 (.int .i64 8)) fun v19 => .pure (.bin .mul 3 (.const (.int .i64 64)) (.tmp 19) (.int .i64 64) v19) fun v20 => .pure (.bin
  .add 3 (.tmp 21) (.const (.int .i64 8)) (sl s2 0) (.int .i64 8)) fun v22 => .pure (.bin .mul 3 (.tmp 20) (.tmp 22) v20 v22) fun v23 => .pure (.bin .add 3 (.tmp 24) (.const (.int
  .i64 4)) a1 (.int .i64 4)) fun v25 => .pure (.bin .mul 3 (.tmp 23) (.tmp 25) v23 v25) fun v26 => .pure (.bin .add 3 (.tmp 27) (.const (.int .i64 8)) a0 (.int .i64 8)) fun v28 =>
  .pure (.bin .mul 3 (.tmp 26) (.tmp 28) v26 v28) fun v29 => .ret [v29]) fun _ => .bad) fun _ => .bad)
theorem tree27 (a0 a1 a2 a3 : Value) : treeF cfg27 Go.Proofs.Tryz.f27 [a0, a1, a2, a3] = t27 a0 a1 a2 a3 := by kernel_rfl
theorem calls27 (a0 a1 a2 a3 : Value) {H : Heap} {Q : Value → Heap → Prop} (h : wpH Go.Proofs.Tryz.prog (fun vs H' => Q (retVal vs) H') (t27 a0 a1 a2 a3) (fun _ _ _ => False) H) : CallsH Go.Proofs.Tryz.prog 27 #[a0, a1, a2, a3] H Q :=
  callsH_of_tree cfg27 mixed Go.Proofs.Tryz.func27 (by rw [tree27]; exact h)

/-- hostler/hostlerref24.May -/
def cfg28 : Cfg := ⟨tyInts, tyMaps, [], [(1, [6])], []⟩
def t28 (a0 a1 a2 : Value) : T := .join (.pure (.bin .geq 3 (.tmp 7) (.const (.int .i64 1)) a0 (.int .i64 1)) fun v8 => .ite v8 (.pure (.bin .leq 3 (.tmp 10) (.const (.int .i64
  64)) a0 (.int .i64 64)) fun v11 => .ite v11 (.pure (.bin .geq 3 (.tmp 14) (.tmp 15) a1 a0) fun v16 => .ite v16 (.pure (.bin .leq 3 (.tmp 19) (.const (.int .i64 128)) a1 (.int
  .i64 128)) fun v20 => .ite v20 (.pure (.bin .geq 3 (.tmp 23) (.const (.int .i64 1)) a2 (.int .i64 1)) fun v24 => .ite v24 (.pure (.bin .leq 3 (.tmp 27) (.const (.int .i64 4096))
  a2 (.int .i64 4096)) fun v28 => .leaf none [v28]) (.leaf none [(.bool false)])) (.leaf none [(.bool false)])) (.leaf none [(.bool false)])) (.leaf none [(.bool false)])) (.leaf
  none [(.bool false)])) fun e s1 => onE e (.ret [(sl s1 0)]) fun _ => .bad
theorem tree28 (a0 a1 a2 : Value) : treeF cfg28 Go.Proofs.Tryz.f28 [a0, a1, a2] = t28 a0 a1 a2 := by kernel_rfl
theorem calls28 (a0 a1 a2 : Value) {H : Heap} {Q : Value → Heap → Prop} (h : wpH Go.Proofs.Tryz.prog (fun vs H' => Q (retVal vs) H') (t28 a0 a1 a2) (fun _ _ _ => False) H) : CallsH Go.Proofs.Tryz.prog 28 #[a0, a1, a2] H Q :=
  callsH_of_tree cfg28 mixed Go.Proofs.Tryz.func28 (by rw [tree28]; exact h)

/-- hostler/bound.right -/
def cfg105 : Cfg := ⟨tyInts, tyMaps, [], [], []⟩
def t105 (a0 : Value) : T := .op [] (.box 24 a0) fun v1 => .look (.load 24 v1) fun v6 => .op [] (.callv (.func (.func 90) #[] #[]) #[v6]) fun v7 => .pure (.extract v7 0) fun _ =>
  .pure (.extract v7 1) fun v9 => .pure (.bin .eql 149 (.tmp 10) (.const (.int .i64 0)) v9 (.int .i64 0)) fun v11 => .ret [v11]
theorem tree105 (a0 : Value) : treeF cfg105 Go.Proofs.Tryz.f105 [a0] = t105 a0 := by kernel_rfl
theorem calls105 (a0 : Value) {H : Heap} {Q : Value → Heap → Prop} (h : wpH Go.Proofs.Tryz.prog (fun vs H' => Q (retVal vs) H') (t105 a0) (fun _ _ _ => False) H) : CallsH Go.Proofs.Tryz.prog 105 #[a0] H Q :=
  callsH_of_tree cfg105 mixed Go.Proofs.Tryz.func105 (by rw [tree105]; exact h)

/-- hostler/hostlerlaw24.lives -/
def cfg23 : Cfg := ⟨tyInts, tyMaps, [], [(1, [0])], []⟩
def t23 : T := .join (.op [] (.callv (.func (.func 39) #[] #[]) #[]) fun v1 => .ite v1 (.pure (.build 24 #[(0, (.int .i64 1)), (1, (.int .i64 1)), (2, (.int .i64 1))]) fun v3 =>
  .op [] (.callv (.func (.func 24) #[] #[]) #[v3]) fun v4 => .pure (.bin .eql 3 (.tmp 4) (.const (.int .i64 26240)) v4 (.int .i64 26240)) fun v5 => .leaf none [v5]) (.leaf none
  [(.bool false)])) fun e s1 => onE e (.ret [(sl s1 0)]) fun _ => .bad
theorem tree23 : treeF cfg23 Go.Proofs.Tryz.f23 [] = t23  := by kernel_rfl
theorem calls23 {H : Heap} {Q : Value → Heap → Prop} (h : wpH Go.Proofs.Tryz.prog (fun vs H' => Q (retVal vs) H') (t23 ) (fun _ _ _ => False) H) : CallsH Go.Proofs.Tryz.prog 23 #[] H Q :=
  callsH_of_tree cfg23 mixed Go.Proofs.Tryz.func23 (by rw [tree23]; exact h)

/-- hostler/hostlerlaw28.ExploreApart -/
def cfg4 : Cfg := ⟨tyInts, tyMaps, [], [(5, [31]), (6, [4]), (18, [64])], [(9, [40]), (16, [53])]⟩
def t4 (a0 a1 : Value) : T := .op [] (.callv (.func (.func 29) #[] #[]) #[]) fun v14 => .pure (.un .not v14) fun v15 => .ite v15 (.ret [(.bool false)]) (.pure (.bin .rem 5 (.tmp
  16) (.const (.int .u8 5)) a0 (.int .u8 5)) fun v17 => .pure (.conv 5 3 v17) fun v18 => .pure (.bin .add 3 (.const (.int .i64 1)) (.tmp 18) (.int .i64 1) v18) fun v19 => .pure
  (.bin .rem 5 (.tmp 20) (.const (.int .u8 6)) a1 (.int .u8 6)) fun v21 => .pure (.conv 5 3 v21) fun v22 => .op [] (.callv (.func (.func 30) #[] #[]) #[v19, v22]) fun v25 => .join
  (.pure (.bin .lss 3 (.tmp 26) (.const (.int .i64 1)) v25 (.int .i64 1)) fun v27 => .ite v27 (.leaf none [(.bool true)]) (.pure (.bin .gtr 3 (.tmp 29) (.const (.int .i64 4096))
  v25 (.int .i64 4096)) fun v30 => .leaf none [v30])) fun e s1 => onE e (.ite (sl s1 0) (.join (.pure (.bin .gtr 3 (.tmp 32) (.const (.int .i64 0)) v25 (.int .i64 0)) fun v33 =>
  .ite v33 (.pure (.bin .gtr 3 (.tmp 35) (.const (.int .i64 1)) v19 (.int .i64 1)) fun v36 => .leaf none [v36]) (.leaf none [(.bool false)])) fun e s2 => onE e (.ret [(sl s2 0)])
  fun _ => .bad) (.op [] (.mkMap 32 none) fun v38 => .loop [(.int .i64 0)] (fun s3 => .pure (.bin .lss 3 (.tmp 40) (.tmp 39) (sl s3 0) v25) fun v41 => .ite v41 (.op [] (.callv
  (.func (.func 31) #[] #[]) #[v19, v22, (sl s3 0)]) fun v46 => .pure (.builtin .len #[33] 3 #[false] #[v46]) fun v48 => .pure (.bin .neq 3 (.tmp 48) (.tmp 49) v48 v22) fun v50 =>
  .ite v50 (.ret [(.bool false)]) (.op [] (.alloc 35) fun v11 => .pure (.builtin .len #[33] 3 #[false] #[v46]) fun v52 => .loop [(.int .i64 0)] (fun s4 => .pure (.bin .lss 3 (.tmp
  53) (.tmp 52) (sl s4 0) v52) fun v54 => .ite v54 (.pure (.indexA 33 v46 (sl s4 0)) fun v56 => .look (.load 3 v56) fun v57 => .join (.pure (.bin .lss 3 (.tmp 58) (.const (.int
  .i64 0)) v57 (.int .i64 0)) fun v59 => .ite v59 (.leaf none [(.bool true)]) (.pure (.bin .geq 3 (.tmp 61) (.tmp 62) v57 v19) fun v63 => .leaf none [v63])) fun e s5 => onE e (.ite
  (sl s5 0) (.ret [(.bool false)]) (.pure (.indexA 35 v11 (sl s4 0)) fun v67 => .op [] (.store 3 v67 v57) fun _ => .pure (.bin .add 3 (.tmp 53) (.const (.int .i64 1)) (sl s4 0)
  (.int .i64 1)) fun v68 => .leaf none [v68])) fun _ => .bad) (.leaf (some 2) [(sl s4 0)])) (fun x _ => (if Nat.beq x 2 then .look (.load 35 v11) fun v70 => .look (.lookup 32 v38
  v70 false) fun v71 => .pure (.bin .add 3 (.tmp 71) (.const (.int .i64 1)) v71 (.int .i64 1)) fun v72 => .op [(.lookup 32 v38 v70 false, v71)] (.mapEntry 32 v38 v70) fun v73 =>
  .pure (.extract v73 1) fun v74 => .op [] (.entryStore 32 v38 v74 v72) fun _ => .pure (.bin .add 3 (.tmp 40) (.const (.int .i64 1)) (sl s3 0) (.int .i64 1)) fun v75 => .leaf none
  [v75] else (if Nat.beq x 1 then .pure (.bin .add 3 (.tmp 40) (.const (.int .i64 1)) (sl s3 0) (.int .i64 1)) fun v75 => .leaf none [v75] else .leaf (some x) [(sl s3 0)])))))
  (.leaf (some 0) [(sl s3 0)])) (fun x _ => (if Nat.beq x 0 then .look (.builtin .len #[32] 3 #[false] #[v38]) fun v77 => .pure (.bin .eql 3 (.tmp 77) (.tmp 78) v77 v25) fun v79 =>
  .ret [v79] else .bad)))) fun _ => .bad)
theorem tree4 (a0 a1 : Value) : treeF cfg4 Go.Proofs.Tryz.f4 [a0, a1] = t4 a0 a1 := by kernel_rfl
theorem calls4 (a0 a1 : Value) {H : Heap} {Q : Value → Heap → Prop} (h : wpH Go.Proofs.Tryz.prog (fun vs H' => Q (retVal vs) H') (t4 a0 a1) (fun _ _ _ => False) H) : CallsH Go.Proofs.Tryz.prog 4 #[a0, a1] H Q :=
  callsH_of_tree cfg4 mixed Go.Proofs.Tryz.func4 (by rw [tree4]; exact h)

/-- hostler/hostlerlaw28.lives -/
def cfg29 : Cfg := ⟨tyInts, tyMaps, [], [(1, [0])], []⟩
def t29 : T := .join (.op [] (.callv (.func (.func 39) #[] #[]) #[]) fun v1 => .ite v1 (.op [] (.callv (.func (.func 31) #[] #[]) #[(.int .i64 2), (.int .i64 3), (.int .i64 5)])
  fun v3 => .op [] (.buildSlice 33 3 #[(0, (.int .i64 1)), (1, (.int .i64 0)), (2, (.int .i64 1))]) fun v4 => .op [] (.callv (.func (.func 33) #[] #[]) #[v3, v4]) fun v5 => .leaf
  none [v5]) (.leaf none [(.bool false)])) fun e s1 => onE e (.ret [(sl s1 0)]) fun _ => .bad
theorem tree29 : treeF cfg29 Go.Proofs.Tryz.f29 [] = t29  := by kernel_rfl
theorem calls29 {H : Heap} {Q : Value → Heap → Prop} (h : wpH Go.Proofs.Tryz.prog (fun vs H' => Q (retVal vs) H') (t29 ) (fun _ _ _ => False) H) : CallsH Go.Proofs.Tryz.prog 29 #[] H Q :=
  callsH_of_tree cfg29 mixed Go.Proofs.Tryz.func29 (by rw [tree29]; exact h)

/-- hostler/explore.Count -/
def cfg30 : Cfg := ⟨tyInts, tyMaps, [], [(1, [19])], [(7, [5, 25])]⟩
def t30 (a0 a1 : Value) : T := .join (.pure (.bin .lss 3 (.tmp 6) (.const (.int .i64 0)) a0 (.int .i64 0)) fun v7 => .ite v7 (.leaf none [(.bool true)]) (.pure (.bin .lss 3 (.tmp
  9) (.const (.int .i64 0)) a1 (.int .i64 0)) fun v10 => .ite v10 (.leaf none [(.bool true)]) (.pure (.bin .eql 3 (.tmp 13) (.const (.int .i64 0)) a0 (.int .i64 0)) fun v14 => .ite
  v14 (.pure (.bin .gtr 3 (.tmp 16) (.const (.int .i64 0)) a1 (.int .i64 0)) fun v17 => .leaf none [v17]) (.leaf none [(.bool false)])))) fun e s1 => onE e (.ite (sl s1 0) (.ret
  [(.int .i64 0)]) (.pure (.bin .eql 3 (.tmp 20) (.const (.int .i64 1)) a0 (.int .i64 1)) fun v21 => .ite v21 (.ret [(.int .i64 1)]) (.pure (.builtin .min #[3, 3] 3 #[false, true]
  #[a1, (.int .i64 1048576)]) fun v24 => .loop [(.int .i64 1), (.int .i64 0)] (fun s2 => .pure (.bin .lss 3 (.tmp 25) (.tmp 24) (sl s2 1) v24) fun v26 => .ite v26 (.pure (.bin .mul
  3 (.tmp 27) (.tmp 28) (sl s2 0) a0) fun v29 => .pure (.bin .gtr 3 (.tmp 30) (.const (.int .i64 1048576)) v29 (.int .i64 1048576)) fun v31 => .ite v31 (.ret [(.int .i64 0)])
  (.pure (.bin .add 3 (.tmp 25) (.const (.int .i64 1)) (sl s2 1) (.int .i64 1)) fun v32 => .leaf none [v29, v32])) (.leaf (some 0) [(sl s2 0), (sl s2 1)])) (fun x s3 => (if Nat.beq
  x 0 then .ret [(sl s3 0)] else .bad))))) fun _ => .bad
theorem tree30 (a0 a1 : Value) : treeF cfg30 Go.Proofs.Tryz.f30 [a0, a1] = t30 a0 a1 := by kernel_rfl
theorem calls30 (a0 a1 : Value) {H : Heap} {Q : Value → Heap → Prop} (h : wpH Go.Proofs.Tryz.prog (fun vs H' => Q (retVal vs) H') (t30 a0 a1) (fun _ _ _ => False) H) : CallsH Go.Proofs.Tryz.prog 30 #[a0, a1] H Q :=
  callsH_of_tree cfg30 mixed Go.Proofs.Tryz.func30 (by rw [tree30]; exact h)

/-- hostler/explore.Order -/
def cfg31 : Cfg := ⟨tyInts, tyMaps, [], [(1, [21])], [(5, [2, 26])]⟩
def t31 (a0 a1 a2 : Value) : T := .join (.pure (.bin .lss 3 (.tmp 9) (.const (.int .i64 0)) a2 (.int .i64 0)) fun v10 => .ite v10 (.leaf none [(.bool true)]) (.op [] (.callv (.func
  (.func 30) #[] #[]) #[a0, a1]) fun v15 => .pure (.bin .geq 3 (.tmp 12) (.tmp 15) a2 v15) fun v16 => .ite v16 (.leaf none [(.bool true)]) (.pure (.bin .gtr 3 (.tmp 19) (.const
  (.int .i64 1048576)) a1 (.int .i64 1048576)) fun v20 => .leaf none [v20]))) fun e s1 => onE e (.ite (sl s1 0) (.ret [(.slice none 0 0)]) (.op [] (.mkSlice 33 a1 a1) fun v23 =>
  .pure (.builtin .len #[33] 3 #[false] #[v23]) fun v25 => .loop [a2, (.int .i64 0)] (fun s2 => .pure (.bin .lss 3 (.tmp 26) (.tmp 25) (sl s2 1) v25) fun v27 => .ite v27 (.pure
  (.bin .sub 3 (.tmp 30) (.const (.int .i64 1)) a1 (.int .i64 1)) fun v31 => .pure (.bin .sub 3 (.tmp 31) (.tmp 32) v31 (sl s2 1)) fun v33 => .pure (.bin .rem 3 (.tmp 34) (.tmp 35)
  (sl s2 0) a0) fun v36 => .pure (.indexA 33 v23 v33) fun v37 => .op [] (.store 3 v37 v36) fun _ => .pure (.bin .quo 3 (.tmp 38) (.tmp 39) (sl s2 0) a0) fun v40 => .pure (.bin .add
  3 (.tmp 26) (.const (.int .i64 1)) (sl s2 1) (.int .i64 1)) fun v41 => .leaf none [v40, v41]) (.leaf (some 0) [(sl s2 0), (sl s2 1)])) (fun x _ => (if Nat.beq x 0 then .ret [v23]
  else .bad)))) fun _ => .bad
theorem tree31 (a0 a1 a2 : Value) : treeF cfg31 Go.Proofs.Tryz.f31 [a0, a1, a2] = t31 a0 a1 a2 := by kernel_rfl
theorem calls31 (a0 a1 a2 : Value) {H : Heap} {Q : Value → Heap → Prop} (h : wpH Go.Proofs.Tryz.prog (fun vs H' => Q (retVal vs) H') (t31 a0 a1 a2) (fun _ _ _ => False) H) : CallsH Go.Proofs.Tryz.prog 31 #[a0, a1, a2] H Q :=
  callsH_of_tree cfg31 mixed Go.Proofs.Tryz.func31 (by rw [tree31]; exact h)

/-- hostler/hostlerref05.Same -/
def cfg33 : Cfg := ⟨tyInts, tyMaps, [], [], [(4, [13])]⟩
def t33 (a0 a1 : Value) : T := .pure (.builtin .len #[33] 3 #[false] #[a0]) fun v7 => .pure (.builtin .len #[33] 3 #[false] #[a1]) fun v9 => .pure (.bin .neq 3 (.tmp 7) (.tmp 9) v7
  v9) fun v10 => .ite v10 (.ret [(.bool false)]) (.pure (.builtin .len #[33] 3 #[false] #[a0]) fun v12 => .loop [(.int .i64 0)] (fun s1 => .pure (.bin .lss 3 (.tmp 13) (.tmp 12)
  (sl s1 0) v12) fun v14 => .ite v14 (.pure (.indexA 33 a0 (sl s1 0)) fun v18 => .look (.load 3 v18) fun v19 => .pure (.indexA 33 a1 (sl s1 0)) fun v22 => .look (.load 3 v22) fun
  v23 => .pure (.bin .neq 3 (.tmp 19) (.tmp 23) v19 v23) fun v24 => .ite v24 (.ret [(.bool false)]) (.pure (.bin .add 3 (.tmp 13) (.const (.int .i64 1)) (sl s1 0) (.int .i64 1))
  fun v25 => .leaf none [v25])) (.leaf (some 0) [(sl s1 0)])) (fun x _ => (if Nat.beq x 0 then .ret [(.bool true)] else .bad)))
theorem tree33 (a0 a1 : Value) : treeF cfg33 Go.Proofs.Tryz.f33 [a0, a1] = t33 a0 a1 := by kernel_rfl
theorem calls33 (a0 a1 : Value) {H : Heap} {Q : Value → Heap → Prop} (h : wpH Go.Proofs.Tryz.prog (fun vs H' => Q (retVal vs) H') (t33 a0 a1) (fun _ _ _ => False) H) : CallsH Go.Proofs.Tryz.prog 33 #[a0, a1] H Q :=
  callsH_of_tree cfg33 mixed Go.Proofs.Tryz.func33 (by rw [tree33]; exact h)

/-- hostler/hostlerlaw28.ExploreOrders -/
def cfg5 : Cfg := ⟨tyInts, tyMaps, [], [(1, [19]), (4, [45]), (6, [51])], [(10, [8, 56])]⟩
def t5 (a0 a1 a2 : Value) : T := .join (.op [] (.callv (.func (.func 29) #[] #[]) #[]) fun v10 => .pure (.un .not v10) fun v11 => .ite v11 (.leaf none [(.bool true)]) (.pure (.bin
  .gtr 3 (.tmp 13) (.const (.int .i64 1048576)) a1 (.int .i64 1048576)) fun v14 => .ite v14 (.leaf none [(.bool true)]) (.pure (.bin .gtr 3 (.tmp 17) (.const (.int .i64
  1099511627776)) a0 (.int .i64 1099511627776)) fun v18 => .leaf none [v18]))) fun e s1 => onE e (.ite (sl s1 0) (.op [] (.callv (.func (.func 29) #[] #[]) #[]) fun v20 => .ret
  [v20]) (.op [] (.callv (.func (.func 30) #[] #[]) #[a0, a1]) fun v23 => .join (.op [] (.callv (.func (.func 32) #[] #[]) #[a0, a1]) fun v27 => .pure (.bin .neq 3 (.tmp 24) (.tmp
  27) v23 v27) fun v28 => .ite v28 (.leaf none [(.bool true)]) (.pure (.bin .lss 3 (.tmp 30) (.const (.int .i64 0)) a2 (.int .i64 0)) fun v31 => .ite v31 (.op [] (.callv (.func
  (.func 31) #[] #[]) #[a0, a1, a2]) fun v41 => .pure (.builtin .len #[33] 3 #[false] #[v41]) fun v42 => .pure (.bin .neq 3 (.tmp 42) (.const (.int .i64 0)) v42 (.int .i64 0)) fun
  v43 => .leaf none [v43]) (.pure (.bin .geq 3 (.tmp 33) (.tmp 34) a2 v23) fun v35 => .ite v35 (.op [] (.callv (.func (.func 31) #[] #[]) #[a0, a1, a2]) fun v41 => .pure (.builtin
  .len #[33] 3 #[false] #[v41]) fun v42 => .pure (.bin .neq 3 (.tmp 42) (.const (.int .i64 0)) v42 (.int .i64 0)) fun v43 => .leaf none [v43]) (.leaf none [(.bool false)])))) fun e
  s2 => onE e (.ite (sl s2 0) (.ret [(.bool false)]) (.join (.pure (.bin .gtr 3 (.tmp 46) (.const (.int .i64 300)) v23 (.int .i64 300)) fun v47 => .ite v47 (.leaf none [(.bool
  true)]) (.pure (.bin .gtr 3 (.tmp 49) (.const (.int .i64 300)) a1 (.int .i64 300)) fun v50 => .leaf none [v50])) fun e s3 => onE e (.ite (sl s3 0) (.ret [(.bool true)]) (.pure
  (.builtin .max #[3, 3] 3 #[true, false] #[(.int .i64 0), a1]) fun v53 => .op [] (.mkSlice 33 v53 v53) fun v54 => .loop [v54, (.int .i64 0)] (fun s4 => .pure (.bin .lss 3 (.tmp
  56) (.tmp 55) (sl s4 1) v23) fun v57 => .ite v57 (.op [] (.callv (.func (.func 31) #[] #[]) #[a0, a1, (sl s4 1)]) fun v62 => .op [] (.callv (.func (.func 33) #[] #[]) #[v62, (sl
  s4 0)]) fun v64 => .pure (.un .not v64) fun v65 => .ite v65 (.ret [(.bool false)]) (.op [] (.callv (.func (.func 34) #[] #[]) #[(sl s4 0), a0]) fun v68 => .pure (.bin .add 3
  (.tmp 56) (.const (.int .i64 1)) (sl s4 1) (.int .i64 1)) fun v69 => .leaf none [v68, v69])) (.leaf (some 0) [(sl s4 0), (sl s4 1)])) (fun x _ => (if Nat.beq x 0 then .ret
  [(.bool true)] else .bad)))) fun _ => .bad)) fun _ => .bad)) fun _ => .bad
theorem tree5 (a0 a1 a2 : Value) : treeF cfg5 Go.Proofs.Tryz.f5 [a0, a1, a2] = t5 a0 a1 a2 := by kernel_rfl
theorem calls5 (a0 a1 a2 : Value) {H : Heap} {Q : Value → Heap → Prop} (h : wpH Go.Proofs.Tryz.prog (fun vs H' => Q (retVal vs) H') (t5 a0 a1 a2) (fun _ _ _ => False) H) : CallsH Go.Proofs.Tryz.prog 5 #[a0, a1, a2] H Q :=
  callsH_of_tree cfg5 mixed Go.Proofs.Tryz.func5 (by rw [tree5]; exact h)

/-- hostler/hostlerref28.Count -/
def cfg32 : Cfg := ⟨tyInts, tyMaps, [], [(1, [12]), (3, [18]), (7, [25]), (9, [34])], [(7, [5, 6])]⟩
def t32 (a0 a1 : Value) : T := .join (.pure (.bin .eql 3 (.tmp 7) (.const (.int .i64 0)) a1 (.int .i64 0)) fun v8 => .ite v8 (.pure (.bin .geq 3 (.tmp 10) (.const (.int .i64 0)) a0
  (.int .i64 0)) fun v11 => .leaf none [v11]) (.leaf none [(.bool false)])) fun e s1 => onE e (.ite (sl s1 0) (.ret [(.int .i64 1)]) (.join (.pure (.bin .lss 3 (.tmp 13) (.const
  (.int .i64 1)) a0 (.int .i64 1)) fun v14 => .ite v14 (.leaf none [(.bool true)]) (.pure (.bin .lss 3 (.tmp 16) (.const (.int .i64 0)) a1 (.int .i64 0)) fun v17 => .leaf none
  [v17])) fun e s2 => onE e (.ite (sl s2 0) (.ret [(.int .i64 0)]) (.loop [(.int .i64 1), (.int .i64 0)] (fun s3 => .join (.pure (.bin .lss 3 (.tmp 19) (.tmp 20) (sl s3 1) a1) fun
  v21 => .ite v21 (.pure (.bin .gtr 3 (.tmp 23) (.const (.int .i64 1)) a0 (.int .i64 1)) fun v24 => .leaf none [v24]) (.leaf none [(.bool false)])) fun e s4 => onE e (.ite (sl s4
  0) (.pure (.bin .mul 3 (.tmp 26) (.tmp 27) (sl s3 0) a0) fun v28 => .join (.pure (.bin .gtr 3 (.tmp 29) (.const (.int .i64 1048576)) v28 (.int .i64 1048576)) fun v30 => .ite v30
  (.leaf none [(.bool true)]) (.pure (.bin .gtr 3 (.tmp 32) (.const (.int .i64 1048576)) a0 (.int .i64 1048576)) fun v33 => .leaf none [v33])) fun e s5 => onE e (.ite (sl s5 0)
  (.ret [(.int .i64 0)]) (.pure (.bin .add 3 (.tmp 35) (.const (.int .i64 1)) (sl s3 1) (.int .i64 1)) fun v36 => .leaf none [v28, v36])) fun _ => .bad) (.leaf (some 0) [(sl s3 0),
  (sl s3 1)])) fun _ => .bad) (fun x s6 => (if Nat.beq x 0 then .ret [(sl s6 0)] else .bad)))) fun _ => .bad)) fun _ => .bad
theorem tree32 (a0 a1 : Value) : treeF cfg32 Go.Proofs.Tryz.f32 [a0, a1] = t32 a0 a1 := by kernel_rfl
theorem calls32 (a0 a1 : Value) {H : Heap} {Q : Value → Heap → Prop} (h : wpH Go.Proofs.Tryz.prog (fun vs H' => Q (retVal vs) H') (t32 a0 a1) (fun _ _ _ => False) H) : CallsH Go.Proofs.Tryz.prog 32 #[a0, a1] H Q :=
  callsH_of_tree cfg32 mixed Go.Proofs.Tryz.func32 (by rw [tree32]; exact h)

/-- hostler/hostlerref28.Next -/
def cfg34 : Cfg := ⟨tyInts, tyMaps, [], [], [(3, [6])]⟩
def t34 (a0 a1 : Value) : T := .op [] (.buildSlice 33 0 #[]) fun v7 => .op [] (.builtin .append #[33, 33] 33 #[false, false] #[v7, a0]) fun v9 => .pure (.builtin .len #[33] 3
  #[false] #[v9]) fun v11 => .pure (.bin .sub 3 (.tmp 11) (.const (.int .i64 1)) v11 (.int .i64 1)) fun v12 => .loop [v12] (fun s1 => .pure (.bin .geq 3 (.tmp 13) (.const (.int
  .i64 0)) (sl s1 0) (.int .i64 0)) fun v14 => .ite v14 (.pure (.indexA 33 v9 (sl s1 0)) fun v19 => .look (.load 3 v19) fun v20 => .pure (.bin .add 3 (.tmp 20) (.const (.int .i64
  1)) v20 (.int .i64 1)) fun v21 => .pure (.indexA 33 v9 (sl s1 0)) fun v22 => .op [] (.store 3 v22 v21) fun _ => .pure (.indexA 33 v9 (sl s1 0)) fun v25 => .look (.load 3 v25) fun
  v26 => .pure (.bin .lss 3 (.tmp 26) (.tmp 27) v26 a1) fun v28 => .ite v28 (.ret [v9]) (.pure (.indexA 33 v9 (sl s1 0)) fun v32 => .op [] (.store 3 v32 (.int .i64 0)) fun _ =>
  .pure (.bin .sub 3 (.tmp 15) (.const (.int .i64 1)) (sl s1 0) (.int .i64 1)) fun v16 => .leaf none [v16])) (.leaf (some 0) [(sl s1 0)])) (fun x _ => (if Nat.beq x 0 then .ret
  [v9] else .bad))
theorem tree34 (a0 a1 : Value) : treeF cfg34 Go.Proofs.Tryz.f34 [a0, a1] = t34 a0 a1 := by kernel_rfl
theorem calls34 (a0 a1 : Value) {H : Heap} {Q : Value → Heap → Prop} (h : wpH Go.Proofs.Tryz.prog (fun vs H' => Q (retVal vs) H') (t34 a0 a1) (fun _ _ _ => False) H) : CallsH Go.Proofs.Tryz.prog 34 #[a0, a1] H Q :=
  callsH_of_tree cfg34 mixed Go.Proofs.Tryz.func34 (by rw [tree34]; exact h)

/-- hostler/hostlerlaw20.WorldAgain -/
def cfg7 : Cfg := ⟨tyInts, tyMaps, [], [(1, [24]), (4, [39]), (15, [85])], [(8, [11, 42]), (18, [88])]⟩
def t7 (a0 a1 a2 a3 : Value) : T := .join (.op [] (.callv (.func (.func 39) #[] #[]) #[]) fun v18 => .pure (.un .not v18) fun v19 => .ite v19 (.leaf none [(.bool true)]) (.pure
  (.builtin .len #[56] 3 #[false] #[a3]) fun v22 => .pure (.bin .gtr 3 (.tmp 22) (.const (.int .i64 400)) v22 (.int .i64 400)) fun v23 => .leaf none [v23])) fun e s1 => onE e (.ite
  (sl s1 0) (.op [] (.callv (.func (.func 39) #[] #[]) #[]) fun v25 => .ret [v25]) (.op [] (.callv (.func (.func 40) #[] #[]) #[a0, a1, a2]) fun v29 => .op [] (.callv (.func (.func
  40) #[] #[]) #[a0, a1, a2]) fun v33 => .join (.pure (.bin .eql 57 (.tmp 34) (.const (.pointer none)) v29 (.pointer none)) fun v35 => .ite v35 (.leaf none [(.bool true)]) (.pure
  (.bin .eql 57 (.tmp 37) (.const (.pointer none)) v33 (.pointer none)) fun v38 => .leaf none [v38])) fun e s2 => onE e (.ite (sl s2 0) (.ret [(.bool false)]) (.pure (.builtin .len
  #[56] 3 #[false] #[a3]) fun v41 => .loop [(.int .i64 0), (.int .i64 0)] (fun s3 => .pure (.bin .lss 3 (.tmp 42) (.tmp 41) (sl s3 1) v41) fun v43 => .ite v43 (.pure (.indexA 56 a3
  (sl s3 1)) fun v44 => .look (.load 40 v44) fun v45 => .op [] (.alloc 40) fun v13 => .op [] (.store 40 v13 v45) fun _ => .look (.load 40 v13) fun v47 => .op [] (.callv (.func
  (.func 41) #[] #[]) #[v29, v47]) fun v48 => .ite v48 (.pure (.bin .add 3 (.tmp 49) (.const (.int .i64 1)) (sl s3 0) (.int .i64 1)) fun v50 => .pure (.bin .add 3 (.tmp 42) (.const
  (.int .i64 1)) (sl s3 1) (.int .i64 1)) fun v51 => .leaf none [v50, v51]) (.pure (.bin .add 3 (.tmp 42) (.const (.int .i64 1)) (sl s3 1) (.int .i64 1)) fun v51 => .leaf none [(sl
  s3 0), v51])) (.leaf (some 0) [(sl s3 0), (sl s3 1)])) (fun x s4 => (if Nat.beq x 0 then .op [] (.callv (.func (.func 42) #[] #[]) #[v29]) fun v53 => .op [] (.callv (.func (.func
  43) #[] #[]) #[v33, a3]) fun v56 => .op [] (.callv (.func (.func 42) #[] #[]) #[v33]) fun v58 => .join (.pure (.bin .neq 3 (.tmp 59) (.tmp 60) v56 (sl s4 0)) fun v61 => .ite v61
  (.leaf none [(.bool true)]) (.pure (.builtin .len #[60] 3 #[false] #[v53]) fun v64 => .pure (.builtin .len #[60] 3 #[false] #[v58]) fun v66 => .pure (.bin .neq 3 (.tmp 64) (.tmp
  66) v64 v66) fun v67 => .ite v67 (.leaf none [(.bool true)]) (.op [] (.callv (.func (.func 44) #[] #[]) #[v29]) fun v71 => .op [] (.callv (.func (.func 44) #[] #[]) #[v33]) fun
  v73 => .op [] (.callv (.func (.func 45) #[] #[]) #[v71, v73]) fun v74 => .pure (.un .not v74) fun v75 => .ite v75 (.leaf none [(.bool true)]) (.op [] (.callv (.func (.func 44)
  #[] #[]) #[v29]) fun v79 => .op [] (.callv (.func (.func 46) #[] #[]) #[v79]) fun v80 => .op [] (.callv (.func (.func 44) #[] #[]) #[v33]) fun v82 => .op [] (.callv (.func (.func
  46) #[] #[]) #[v82]) fun v83 => .pure (.bin .neq 3 (.tmp 80) (.tmp 83) v80 v83) fun v84 => .leaf none [v84])))) fun e s5 => onE e (.ite (sl s5 0) (.ret [(.bool false)]) (.pure
  (.builtin .len #[60] 3 #[false] #[v53]) fun v87 => .loop [(.int .i64 0)] (fun s6 => .pure (.bin .lss 3 (.tmp 88) (.tmp 87) (sl s6 0) v87) fun v89 => .ite v89 (.pure (.indexA 60
  v53 (sl s6 0)) fun v93 => .look (.load 43 v93) fun v94 => .pure (.indexA 60 v58 (sl s6 0)) fun v97 => .look (.load 43 v97) fun v98 => .pure (.bin .neq 43 (.tmp 94) (.tmp 98) v94
  v98) fun v99 => .ite v99 (.ret [(.bool false)]) (.pure (.bin .add 3 (.tmp 88) (.const (.int .i64 1)) (sl s6 0) (.int .i64 1)) fun v100 => .leaf none [v100])) (.leaf (some 2) [(sl
  s6 0)])) (fun x _ => (if Nat.beq x 2 then .ret [(.bool true)] else .bad)))) fun _ => .bad else .bad)))) fun _ => .bad)) fun _ => .bad
theorem tree7 (a0 a1 a2 a3 : Value) : treeF cfg7 Go.Proofs.Tryz.f7 [a0, a1, a2, a3] = t7 a0 a1 a2 a3 := by kernel_rfl
theorem calls7 (a0 a1 a2 a3 : Value) {H : Heap} {Q : Value → Heap → Prop} (h : wpH Go.Proofs.Tryz.prog (fun vs H' => Q (retVal vs) H') (t7 a0 a1 a2 a3) (fun _ _ _ => False) H) : CallsH Go.Proofs.Tryz.prog 7 #[a0, a1, a2, a3] H Q :=
  callsH_of_tree cfg7 mixed Go.Proofs.Tryz.func7 (by rw [tree7]; exact h)

end Go.Tr
