/- A shallow tree of what a Go function does, read off its code by a function of this file, and the law that carries a proof over the tree to the machine. General: it speaks of whatever program. No condition. -/
import Derived.OrdersHeld
import Derived.Tactics
import Derived.KernelRfl
import Derived.Scope
namespace Go.Tr

abbrev Heap := Array Obj

/-- An operation with the values of its operands. -/
inductive N where
  | load (t : TypeId) (a : Value)
  | store (t : TypeId) (a x : Value)
  | alloc (t : TypeId)
  | box (t : TypeId) (x : Value)
  | build (t : TypeId) (ps : Array (Nat × Value))
  | buildSlice (t : TypeId) (n : Nat) (ps : Array (Nat × Value))
  | nilChk (x : Value)
  | bin (op : BinOp) (t : TypeId) (xo yo : Operand) (x y : Value)
  | un (op : UnOp) (x : Value)
  | conv (s d : TypeId) (x : Value)
  | mkI (t : TypeId) (x : Value)
  | mkF (f : Fn) (a b : Array Value)
  | mkMap (t : TypeId) (r : Option Value)
  | mkSlice (t : TypeId) (l c : Value)
  | slice (t : TypeId) (x : Value) (lo hi mx : Option Value)
  | fieldA (t : TypeId) (x : Value) (f : Nat)
  | fieldV (t : TypeId) (x : Value) (f : Nat)
  | indexA (t : TypeId) (x i : Value)
  | indexV (t : TypeId) (x i : Value)
  | lookup (t : TypeId) (x i : Value) (ok : Bool)
  | mapUpd (t : TypeId) (m k x : Value)
  | mapEntry (t : TypeId) (m k : Value)
  | entryStore (t : TypeId) (m s x : Value)
  | range (t : TypeId) (x : Value)
  | next (it : Value) (str : Bool) (ty : TypeId)
  | entry (it : Value)
  | tAssert (x : Value) (t a : TypeId) (ok : Bool)
  | extract (x : Value) (i : Nat)
  | pick (c a b : Value)
  | callv (f : Value) (args : Array Value)
  | builtin (b : Builtin) (ts : Array TypeId) (ty : TypeId) (cs : Array Bool) (args : Array Value)
  | resv (t : TypeId) (a : Value)
  | other (s : Sem Next)

def N.sem : N → Sem Next
  | .load t a => do pure (.value (← Instr.loadAt t a))
  | .store t a x => do Instr.storeAt t a x; pure .skip
  | .alloc t => do pure (.value (← Instr.alloc t true (.tuple #[])))
  | .box t x => do pure (.value (← Instr.box t x))
  | .build t ps => do pure (.value (← Instr.build t ps))
  | .buildSlice t n ps => do pure (.value (← Instr.buildSlice t n ps))
  | .nilChk x => match x with
    | .pointer none | .nilIface | .nilFunc => runtimePanic .nilDeref
    | .func (.method name) first captured =>
      match (first[0]? : Option Value) with
      | some .nilIface => runtimePanic .nilDeref
      | some (.iface t w) => do
        if (← nilAhead ((← program).types.size + Made.depth) t w name) != some false then
          unsupported (.noEntry "op/nilCheck.the method's receiver behind this interface value is a nil pointer, or cannot be seen to be none, and the arguments act or may panic (ledger 612)")
        pure (.value (.func (.method name) first captured))
      | _ => pure (.value (.func (.method name) first captured))
    | x => pure (.value x)
  | .bin op t xo yo x y => do pure (.value (← (do eqGuard op t xo yo x y; binOp op t x y)))
  | .un op x => do pure (.value (← Op.unary op x))
  | .conv s d x => do pure (.value (← convert s d x))
  | .mkI t x => do pure (.value (← Instr.makeInterface t x))
  | .mkF f a b => do pure (.value (← Instr.makeFunc f a b))
  | .mkMap t r => do pure (.value (← Instr.makeMap t r))
  | .mkSlice t l c => do pure (.value (← Instr.makeSlice t l c))
  | .slice t x lo hi mx => do pure (.value (← Instr.sliceAt t x lo hi mx))
  | .fieldA t x f => do pure (.value (← Instr.fieldAt t x f))
  | .fieldV t x f => do pure (.value (← Instr.field t x f))
  | .indexA t x i => do pure (.value (← Instr.indexAt t x i))
  | .indexV t x i => do pure (.value (← Instr.index t x i))
  | .lookup t x i ok => do pure (.value (← Instr.lookup t x i ok))
  | .mapUpd t m k x => do Instr.mapUpdate t m k x; pure .skip
  | .mapEntry t m k => do pure (.value (← Instr.mapEntry t m k))
  | .entryStore t m s x => do Instr.entryStore t m s x; pure .skip
  | .range t x => do pure (.value (← Instr.range t x))
  | .next it str ty => do pure (.value (← Instr.next it str ty))
  | .entry it => do pure (.value (← Instr.entry it))
  | .tAssert x t a ok => do pure (.value (← Instr.typeAssert x t a ok))
  | .extract x i => do pure (.value (← Instr.extract x i))
  | .pick c a b => do pure (.value (if ← asBool c then a else b))
  | .callv f args => do let d ← Deferred.ofValue f args; invoke d.target d.args
  | .builtin b ts ty cs args => Go.builtin b ts ty cs args
  | .resv t a => do pure (.value (← (do loadVar t (← asAddr a))))
  | .other s => s

/-- The operation of a row of the code, its operands read by e. -/
def toN (o : Oper) (e : Operand → Value) : N :=
  match o.op with
  | .load t a => .load t (e a)
  | .store t a x => .store t (e a) (e x)
  | .alloc t => .alloc t
  | .box t x => .box t (e x)
  | .build t ps => .build t (ps.map fun (i, x) => (i, e x))
  | .buildSlice t n ps => .buildSlice t n (ps.map fun (i, x) => (i, e x))
  | .nilCheck x => .nilChk (e x)
  | .binOp op t x y _ => .bin op t x y (e x) (e y)
  | .unOp op _ x => .un op (e x)
  | .convert s d x => .conv s d (e x)
  | .makeInterface t x => .mkI t (e x)
  | .makeFunc f a b => .mkF f (a.map e) (b.map e)
  | .makeMap t r => .mkMap t (r.map e)
  | .makeSlice t l c => .mkSlice t (e l) (e c)
  | .slice t x lo hi mx => .slice t (e x) (lo.map e) (hi.map e) (mx.map e)
  | .fieldAddr t x f => .fieldA t (e x) f
  | .field t x f => .fieldV t (e x) f
  | .indexAddr t x i => .indexA t (e x) (e i)
  | .index t x i => .indexV t (e x) (e i)
  | .lookup t x i ok => .lookup t (e x) (e i) ok
  | .mapUpdate t m k x => .mapUpd t (e m) (e k) (e x)
  | .insert t m k x => .mapUpd t (e m) (e k) (e x)
  | .mapEntry t m k => .mapEntry t (e m) (e k)
  | .entryStore t m s x => .entryStore t (e m) (e s) (e x)
  | .range t x => .range t (e x)
  | .next it str => .next (e it) str o.type
  | .entry it => .entry (e it)
  | .typeAssert x t a ok => .tAssert (e x) t a ok
  | .extract x i => .extract (e x) i
  | .pick c a b => .pick (e c) (e a) (e b)
  | .call c => match c.callee with
    | .value f => .callv (e f) (c.args.map e)
    | .builtin b => .builtin b c.argTypes o.type (c.args.map fun | .const _ => true | _ => false) (c.args.map e)
    | .invoke .. => .other (execOp e o)
  | _ => .other (execOp e o)

theorem toN_sem (o : Oper) (e : Operand → Value) : (toN o e).sem = execOp e o := by
  obtain ⟨dst, op, type, pos, after, guard⟩ := o
  cases op <;> try rfl
  rename_i c
  obtain ⟨callee, args, ats⟩ := c
  cases callee <;> rfl

/-- What a computation without the world comes to. -/
def dry (P : Program) {α : Type} : Sem α → Option α
  | .pure a => some a
  | .program k => dry P (k P)
  | .mark _ k => dry P k
  | _ => none

theorem run_dry {P : Program} {α : Type} {s : Sem α} {a : α} : dry P s = some a → ∀ w, s.run P w = .ok a w := by
  induction s with
  | pure x => intro h w; simp [dry] at h; subst h; rfl
  | program k ih => intro h w; simp only [dry] at h; simp only [Sem.run]; exact ih P h w
  | mark m k ih => intro h w; simp only [dry] at h; simp only [Sem.run]; exact ih h w
  | _ => intro h; simp [dry] at h

/-- The tree: what a piece of code does. -/
inductive T where
  | ret (vs : List Value)
  | leaf (e : Option Nat) (vs : List Value)
  | pure (n : N) (k : Value → T)
  | look (n : N) (k : Value → T)
  | op (ws : List (N × Value)) (n : N) (k : Value → T)
  | ite (c : Value) (a b : T)
  | both (a b : T)
  | top
  | loop (s : List Value) (body : List Value → T) (k : Nat → List Value → T)
  | join (t : T) (k : Option Nat → List Value → T)
  | bad

/-- What stays outside the heap. -/
structure Keeps (w w' : World) : Prop where
  os : w'.os = w.os
  tape : w'.tape = w.tape
  output : w'.output = w.output

theorem Keeps.refl (w : World) : Keeps w w := ⟨rfl, rfl, rfl⟩
theorem Keeps.trans {a b c : World} (h : Keeps a b) (k : Keeps b c) : Keeps a c := ⟨k.os.trans h.os, k.tape.trans h.tape, k.output.trans h.output⟩

/-- A call, told by heaps alone. -/
def CallsH (P : Program) (f : FuncId) (args : Array Value) (H : Heap) (Q : Value → Heap → Prop) : Prop :=
  ∀ w : World, w.heap = H → Calls P f args w fun e w' => ∃ v, e = .returned v ∧ Keeps w w' ∧ Q v w'.heap

theorem CallsH.mono {P : Program} {f : FuncId} {args : Array Value} {H : Heap} {Q Q' : Value → Heap → Prop} (h : CallsH P f args H Q)
    (hq : ∀ v H', Q v H' → Q' v H') : CallsH P f args H Q' :=
  fun w hw => (h w hw).mono fun _ _ ⟨v, he, hk, q⟩ => ⟨v, he, hk, hq _ _ q⟩

/-- What is asked of an operation's end. -/
def okNext (P : Program) (w : World) (K : Value → Heap → Prop) : Result Next → Prop
  | .ok (.value v) w' => Keeps w w' ∧ K v w'.heap
  | .ok .skip w' => Keeps w w' ∧ K undef w'.heap
  | .ok (.enter f args) w' => Keeps w w' ∧ CallsH P f args w'.heap K
  | .ok (.row row args) w' => Rows P row args w' fun v w'' => Keeps w w'' ∧ K v w''.heap
  | _ => False

/-- Those who were looked at early still read so. -/
def Held (P : Program) (ws : List (N × Value)) (H : Heap) : Prop :=
  ∀ x ∈ ws, ∀ w : World, w.heap = H → x.1.sem.run P w = .ok (.value x.2) w

def wpH (P : Program) (Q : List Value → Heap → Prop) : T → (Option Nat → List Value → Heap → Prop) → Heap → Prop
  | .ret vs, _, H => Q vs H
  | .leaf e vs, R, H => R e vs H
  | .pure n k, R, H => ∃ v, dry P n.sem = some (.value v) ∧ wpH P Q (k v) R H
  | .look n k, R, H => ∃ v, (∀ w : World, w.heap = H → n.sem.run P w = .ok (.value v) w) ∧ wpH P Q (k v) R H
  | .op ws n k, R, H => ∀ w : World, w.heap = H → okNext P w (fun v H' => Held P ws H' ∧ wpH P Q (k v) R H') (n.sem.run P w)
  | .ite c a b, R, H => (c = .bool true ∧ wpH P Q a R H) ∨ (c = .bool false ∧ wpH P Q b R H)
  | .both a b, R, H => wpH P Q a R H ∧ wpH P Q b R H
  | .top, _, _ => True
  | .loop s body k, R, H => ∃ (I : List Value → Heap → Prop) (m : List Value → Heap → Nat), I s H ∧
      ∀ s H, I s H → wpH P Q (body s) (fun e vs H' => match e with
        | none => I vs H' ∧ m vs H' < m s H
        | some id => wpH P Q (k id vs) R H') H
  | .join t k, R, H => wpH P Q t (fun e vs H' => wpH P Q (k e vs) R H') H
  | .bad, _, _ => False

theorem okNext_mono {P : Program} {w : World} {K K' : Value → Heap → Prop} (h : ∀ v H, K v H → K' v H) {r : Result Next} (hr : okNext P w K r) : okNext P w K' r := by
  cases r with
  | ok n w' =>
    cases n <;> simp only [okNext] at hr ⊢ <;> first | exact ⟨hr.1, h _ _ hr.2⟩ | exact ⟨hr.1, hr.2.mono h⟩ | exact hr.mono (fun _ _ q => ⟨q.1, h _ _ q.2⟩)
  | halt x w' => exact hr

/-! ### From the code to the tree -/

inductive V where
  | val (v : Value)
  | lit (b : Bool)
  | und
def V.toValue : V → Value
  | .val v => v
  | .lit b => .bool b
  | .und => undef

abbrev Env := Nat → Option V

def Env.put (ρ : Env) (d : Nat) (v : V) : Env := fun i => if Nat.beq i d then some v else ρ i
def Env.putD (ρ : Env) (d : Option Nat) (v : V) : Env := match d with | some d => ρ.put d v | none => ρ
def Env.drop (ρ : Env) (l : List Nat) : Env := fun i => if l.elem i then none else ρ i
/-- Number k of a list of slots. -/
def sl (s : List Value) (k : Nat) : Value := s.getD k undef
def Env.setsFrom (ρ : Env) (vs : List Value) : List Nat → Nat → Env
  | i :: l, k => (Env.setsFrom ρ vs l (k + 1)).put i (.val (sl vs k))
  | [], _ => ρ
def Env.sets (ρ : Env) (l : List Nat) (vs : List Value) : Env := ρ.setsFrom vs l 0
def Env.ev (ρ : Env) : Operand → V
  | .tmp t => (ρ t).getD .und
  | .const (.bool b) => .lit b
  | .const v => .val v
  | .global g => .val (.pointer (some ⟨g, 0, none⟩))
  | .func f => .val (.func (.func f) #[] #[])
def Env.gets (ρ : Env) : List Nat → Option (List Value)
  | [] => some []
  | i :: l => match ρ i, Env.gets ρ l with
    | some v, some vs => some (v.toValue :: vs)
    | _, _ => none

def noSel : Op → Bool
  | .select .. => false
  | _ => true
def known (ρ : Env) (o : Oper) : Bool := noSel o.op && o.op.operands.toList.all fun | .tmp t => (ρ t).isSome | _ => true

inductive Kind where
  | pure | look | loud
  deriving DecidableEq

structure Cfg where
  /-- whole number types -/
  ints : List Nat
  /-- types of maps -/
  maps : List Nat
  /-- the live slots at a join: by the first region of what follows -/
  joins : List (Nat × List Nat)
  /-- the live slots behind a region that is parted by guards -/
  outs : List (Nat × List Nat)
  /-- the slots that a loop carries, by its first region -/
  loops : List (Nat × List Nat)

def find (l : List (Nat × List Nat)) (i : Nat) : Option (List Nat) :=
  match l with
  | [] => none
  | (j, x) :: l => if Nat.beq i j then some x else find l i

def kindOf (C : Cfg) : Op → Kind
  | .load .. | .lookup .. => .look
  | .build .. | .nilCheck _ | .binOp .. | .unOp .. | .makeFunc .. | .fieldAddr .. | .field .. | .indexAddr .. | .index .. | .slice .. | .extract .. | .pick .. | .makeInterface .. => .pure
  | .convert s d _ => if C.ints.elem s && C.ints.elem d then .pure else .loud
  | .call { callee := .builtin .len, argTypes := ts, .. } => if C.maps.elem (ts.getD 0 0) then .look else .pure
  | .call { callee := .builtin .cap, .. } | .call { callee := .builtin .min, .. } | .call { callee := .builtin .max, .. } => .pure
  | _ => .loud

inductive G where
  | run | skip | ask (d : Nat) (c : Value) (want : Bool) | bad

def guardOf (ops : Array Oper) (ρ : Env) (o : Oper) : G :=
  match o.guard with
  | none => .run
  | some (j, want) =>
    match (ops[j]?).bind (·.dst) with
    | none => .skip
    | some d => match ρ d with
      | some (.lit b) => if b == want then .run else .skip
      | some .und => .skip
      | some (.val v) => .ask d v want
      | none => .bad

def dstOk (n : Nat) (o : Oper) : Bool := match o.dst with | some d => Nat.blt d n | none => true

/-- One operation is carried out; it is not in a region that draws. -/
def stepT (C : Cfg) (n : Nat) (o : Oper) (ρ : Env) (k : Env → T) : T :=
  if known ρ o && dstOk n o then
    match o.op with
    | .move x | .assign x => k (ρ.putD o.dst (ρ.ev x))
    | .pick c a b => match ρ.ev c with
      | .lit t => k (ρ.putD o.dst (if t then ρ.ev a else ρ.ev b))
      | c => .pure (.pick c.toValue (ρ.ev a).toValue (ρ.ev b).toValue) fun v => k (ρ.putD o.dst (.val v))
    | _ => match kindOf C o.op with
      | .pure => .pure (toN o fun x => (ρ.ev x).toValue) fun v => k (ρ.putD o.dst (.val v))
      | .look => .look (toN o fun x => (ρ.ev x).toValue) fun v => k (ρ.putD o.dst (.val v))
      | .loud => .op [] (toN o fun x => (ρ.ev x).toValue) fun v => k (ρ.putD o.dst (.val v))
  else .bad

def treeL (C : Cfg) (n : Nat) (ops : Array Oper) (κ : Env → T) : List Oper → Env → T
  | [], ρ => κ ρ
  | o :: rest, ρ =>
    match guardOf ops ρ o with
    | .run => stepT C n o ρ fun ρ' => treeL C n ops κ rest ρ'
    | .skip => if dstOk n o then treeL C n ops κ rest (ρ.putD o.dst .und) else .bad
    | .ask d c want => if dstOk n o then
        .ite c (if want then stepT C n o (ρ.put d (.lit true)) fun ρ' => treeL C n ops κ rest ρ' else treeL C n ops κ rest ((ρ.put d (.lit true)).putD o.dst .und))
               (if want then treeL C n ops κ rest ((ρ.put d (.lit false)).putD o.dst .und) else stepT C n o (ρ.put d (.lit false)) fun ρ' => treeL C n ops κ rest ρ')
      else .bad
    | .bad => .bad

def quiet (C : Cfg) (o : Oper) : Bool := match o.op with
  | .move _ | .assign _ => true
  | op => match kindOf C op with | .loud => false | _ => true

/-- An operation of a region that draws is taken first. -/
def stepQ (C : Cfg) (n : Nat) (i : Nat) (o : Oper) (ρ : Env) (ws : List (Nat × N × Value)) (k : Env → List (Nat × N × Value) → T) : T :=
  if known ρ o && dstOk n o then
    match o.op with
    | .move x | .assign x => k (ρ.putD o.dst (ρ.ev x)) ws
    | .pick c a b => match ρ.ev c with
      | .lit t => k (ρ.putD o.dst (if t then ρ.ev a else ρ.ev b)) ws
      | c => .pure (.pick c.toValue (ρ.ev a).toValue (ρ.ev b).toValue) fun v => k (ρ.putD o.dst (.val v)) ws
    | _ => match kindOf C o.op with
      | .pure => .pure (toN o fun x => (ρ.ev x).toValue) fun v => k (ρ.putD o.dst (.val v)) ws
      | .look => .look (toN o fun x => (ρ.ev x).toValue) fun v => k (ρ.putD o.dst (.val v)) ((i, toN o fun x => (ρ.ev x).toValue, v) :: ws)
      | .loud => .bad
  else .bad

/-- An operation of a region that draws, in its turn. -/
def stepW (n : Nat) (o : Oper) (ρ : Env) (ws : List (Nat × N × Value)) (k : Env → T) : T :=
  if known ρ o && dstOk n o then .op (ws.map (·.2)) (toN o fun x => (ρ.ev x).toValue) fun v => k (ρ.putD o.dst (.val v)) else .bad

/-- Under its guard. -/
def guarded (n : Nat) (ops : Array Oper) (o : Oper) (ρ : Env) (run : Env → T) (k : Env → T) : T :=
  match guardOf ops ρ o with
  | .run => run ρ
  | .skip => if dstOk n o then k (ρ.putD o.dst .und) else .bad
  | .ask d c want => if dstOk n o then
      .ite c (if want then run (ρ.put d (.lit true)) else k ((ρ.put d (.lit true)).putD o.dst .und)) (if want then k ((ρ.put d (.lit false)).putD o.dst .und) else run (ρ.put d (.lit false)))
    else .bad
  | .bad => .bad

def cand (C : Cfg) (ops : Array Oper) (listed : Array Bool) (ρ : Env) (i : Nat) : Bool :=
  match ops[i]? with
  | none => false
  | some o => (match guardOf ops ρ o with | .skip => true | .bad => false | _ => quiet C o) && Region.free .any ops listed i

def firstOf (p : Nat → Bool) : List Nat → Option Nat
  | [] => none
  | i :: l => if p i then some i else firstOf p l

def allT (f : Nat → T) : List Nat → T
  | [] => .top
  | [i] => f i
  | i :: l => .both (f i) (allT f l)

/-- The operations of a region that wait for number i, at once or through others. -/
def waits (ops : Array Oper) (i : Nat) : List Nat :=
  (List.range ops.size).foldl (fun acc j => match ops[j]? with
    | some o => if o.after.toList.any (fun e => Region.binds .any e && (Nat.beq e.on i || acc.elem e.on)) then j :: acc else acc
    | none => acc) []
/-- What has still to be held once number j came up. -/
def restW (ops : Array Oper) (j : Nat) (ws : List (Nat × N × Value)) : List (Nat × N × Value) := ws.filter fun x => !(waits ops x.1).elem j

def treeD (C : Cfg) (n : Nat) (ops : Array Oper) (κ : Env → T) : Nat → Array Bool → Env → List (Nat × N × Value) → T
  | 0, listed, ρ, _ => match Region.ready .any ops listed with
    | [] => κ ρ
    | _ => .bad
  | fuel + 1, listed, ρ, ws =>
    match Region.ready .any ops listed with
    | [] => κ ρ
    | i :: rs =>
      match firstOf (cand C ops listed ρ) (i :: rs) with
      | some i => match ops[i]? with
        | some o => guarded n ops o ρ (fun ρ => stepQ C n i o ρ ws fun ρ' ws' => treeD C n ops κ fuel (listed.setIfInBounds i true) ρ' ws')
            fun ρ => treeD C n ops κ fuel (listed.setIfInBounds i true) ρ ws
        | none => .bad
      | none => allT (fun i => match ops[i]? with
        | some o => guarded n ops o ρ (fun ρ => stepW n o ρ (restW ops i ws) fun ρ' => treeD C n ops κ fuel (listed.setIfInBounds i true) ρ' (restW ops i ws))
            fun ρ => treeD C n ops κ fuel (listed.setIfInBounds i true) ρ ws
        | none => .bad) (i :: rs)

def dstsOf (ops : List Oper) : List Nat := ops.flatMap fun o => o.dst.toList

def cdsts : Code → List Nat
  | .region _ ops _ => dstsOf ops.toList
  | .seq a b => cdsts a ++ cdsts b
  | .cond _ a b => cdsts a ++ cdsts b
  | .block _ c => cdsts c
  | .loop c => cdsts c
  | .scope c => cdsts c
  | _ => []

def firstReg : Code → Nat
  | .region id _ _ => id
  | .seq a _ => firstReg a
  | .cond _ a _ => firstReg a
  | .block _ c => firstReg c
  | .loop c => firstReg c
  | .scope c => firstReg c
  | _ => 1000000

def leafOf (ρ : Env) (L : List Nat) (e : Option Nat) : T := match ρ.gets L with
  | some vs => .leaf e vs
  | none => .bad

def treeR (C : Cfg) (n : Nat) (ops : Array Oper) (draw : Bool) (ρ : Env) (κ : Env → T) : T :=
  if draw then (if Region.noSelect ops then treeD C n ops κ ops.size (Array.replicate ops.size false) ρ [] else .bad) else treeL C n ops κ ops.toList ρ

/-- What a function hands back, read at its end. -/
def retT : List ResultVar → Env → List Value → T
  | [], _, acc => .ret acc.reverse
  | .tmp t :: l, ρ, acc => match ρ t with
    | some v => retT l ρ (v.toValue :: acc)
    | none => .bad
  | .cell b t :: l, ρ, acc => match ρ b with
    | some v => .look (.resv t v.toValue) fun u => retT l ρ (u :: acc)
    | none => .bad

def treeC (C : Cfg) (n : Nat) (rs : List ResultVar) : Code → Env → (Option Nat → Env → T) → T
  | .skip, ρ, κ => κ none ρ
  | .region id ops draw, ρ, κ => match find C.outs id with
    | some L => .join (treeR C n ops draw ρ fun ρ' => leafOf ρ' L none) fun e vs => match e with
      | none => κ none ((ρ.drop (dstsOf ops.toList)).sets L vs)
      | some _ => .bad
    | none => treeR C n ops draw ρ fun ρ' => κ none ρ'
  | .seq a b, ρ, κ => match find C.joins (firstReg b) with
    | some L => .join (treeC C n rs a ρ fun e ρ' => leafOf ρ' L e) fun e vs => match e with
      | none => treeC C n rs b ((ρ.drop (cdsts a)).sets L vs) κ
      | some id => κ (some id) ((ρ.drop (cdsts a)).sets L vs)
    | none => treeC C n rs a ρ fun e ρ' => match e with
      | none => treeC C n rs b ρ' κ
      | some id => κ (some id) ρ'
  | .cond c a b, ρ, κ => match ρ.ev c with
    | .lit t => if t then treeC C n rs a ρ κ else treeC C n rs b ρ κ
    | .val v => .ite v (treeC C n rs a ρ κ) (treeC C n rs b ρ κ)
    | .und => .bad
  | .block id c, ρ, κ => treeC C n rs c ρ fun e ρ' => match e with
    | some j => if Nat.beq j id then κ none ρ' else κ (some j) ρ'
    | none => κ none ρ'
  | .loop c, ρ, κ => match find C.loops (firstReg c) with
    | some L => match ρ.gets L with
      | some s => .loop s (fun s => treeC C n rs c ((ρ.drop (cdsts c)).sets L s) fun e ρ' => leafOf ρ' L e) fun id vs => κ (some id) ((ρ.drop (cdsts c)).sets L vs)
      | none => .bad
    | none => .bad
  | .exit id, ρ, κ => κ (some id) ρ
  | .scope c, ρ, κ => treeC C n rs c ρ κ
  | .label _, ρ, κ => κ none ρ
  | .ret, ρ, _ => retT rs ρ []
  | _, _, _ => .bad

def env0 (args : List Value) (n : Nat) : Env := fun i => match args[i]? with
  | some v => some (.val v)
  | none => if Nat.blt i n then some .und else none

/-- The tree of a function at its arguments. -/
def treeF (C : Cfg) (fn : Func) (args : List Value) : T :=
  match fn.body with
  | some c => if Nat.ble args.length fn.ntmps then
      treeC C fn.ntmps fn.results.toList c (env0 args fn.ntmps) fun e ρ => match e with
        | none => retT fn.results.toList ρ []
        | some _ => .bad
    else .bad
  | _ => .bad

/-- Go on behind a piece: at its end, or by a way out. -/
def onE (e : Option Nat) (a : T) (b : Nat → T) : T := match e with
  | none => a
  | some id => b id

def retVal : List Value → Value
  | [v] => v
  | vs => .tuple vs.toArray

end Go.Tr
