/- A walk over abstract values by reckoning; what it comes to holds of the machine. -/
import Derived.Test.YtijakklhklcjhaaAb12
namespace Go.Proofs.YtijakklhklcjhaaA
open Go Go.RowKit
set_option linter.unusedVariables false
set_option linter.unusedSimpArgs false

inductive Ex where
  | normal
  | exit (id : Nat)
  | ret

/-- What a walk comes to. -/
inductive Rs where
  | goal (c : Prop)
  | need (c : Prop) (k : Rs)
  | split (b : Bool) (k1 k2 : Rs)
  | call (f : FuncId) (xs : List A) (st : St) (d : Option Nat) (k : St → Rs)
  | loop (c : Code) (st : St) (k : Ex → St → Rs)
  | cut (x y : Code) (st : St) (k : Ex → St → Rs)
  | pcall (f : FuncId) (xs : List A) (k : A → Rs)
  | fail

def lenO : List Ob → Nat
  | [] => 0
  | _ :: l => lenO l + 1
def lenB : List Bool → Nat
  | [] => 0
  | _ :: l => lenB l + 1
theorem lenO_eq : ∀ (l : List Ob), lenO l = l.length
  | [] => rfl
  | x :: l => by simp [lenO, lenO_eq l]
theorem lenB_eq : ∀ (l : List Bool), lenB l = l.length
  | [] => rfl
  | x :: l => by simp [lenB, lenB_eq l]

/-! Reckoning goes on with what is reckoned, not with how: values are taken apart and put together again. -/
def frcV (v : Value) (c : Value → Rs) : Rs := match v with
  | .int k n => c (.int k n)
  | .bool b => c (.bool b)
  | .string s => c (.string s)
  | .pointer p => c (.pointer p)
  | .slice q n m => c (.slice q n m)
  | v => c v
def frcD (x : D) (c : D → Rs) : Rs := match x with
  | .v v => frcV v (fun v => c (.v v))
  | .sl sz n f => c (.sl sz n f)
def frc : A → (A → Rs) → Rs
  | .dead, c => c .dead
  | .p x, c => frcD x (fun x => c (.p x))
  | .agg cs, c => frcs cs (fun cs => c (.agg cs))
  | .tup cs, c => frcs cs (fun cs => c (.tup cs))
  | .ref o off, c => c (.ref o off)
  | .imm cs off, c => c (.imm cs off)
  | .own t e sz n f, c => c (.own t e sz n f)
  | .sref o off n, c => c (.sref o off n)
  | .fn f caps, c => frcs caps (fun caps => c (.fn f caps))
where frcs : List A → (List A → Rs) → Rs
  | [], c => c []
  | x :: xs, c => frc x (fun x => frcs xs (fun xs => c (x :: xs)))
def snocO : List Ob → Ob → (List Ob → Rs) → Rs
  | [], x, c => c [x]
  | o :: l, x, c => snocO l x (fun l => c (o :: l))
def setO : List Ob → Nat → Ob → (List Ob → Rs) → Rs
  | [], _, _, c => c []
  | _ :: l, 0, x, c => c (x :: l)
  | o :: l, i + 1, x, c => setO l i x (fun l => c (o :: l))
def snocB : List Bool → Bool → (List Bool → Rs) → Rs
  | [], x, c => c [x]
  | o :: l, x, c => snocB l x (fun l => c (o :: l))
def killB (ts : List Bool) (k : Option Nat) (c : List Bool → Rs) : Rs := match k with
  | none => c ts
  | some t => go ts t c
where go : List Bool → Nat → (List Bool → Rs) → Rs
  | [], _, c => c []
  | _ :: l, 0, c => c (false :: l)
  | b :: l, i + 1, c => go l i (fun l => c (b :: l))
def natK (n : Nat) (c : Nat → Rs) : Rs := match n with
  | 0 => c 0
  | n + 1 => c (n + 1)
def putK (st : St) (d : Option Nat) (x : A) (k : St → Rs) : Rs := match d with
  | none => k st
  | some d => match st with
    | ⟨n, n0, sl, ob, tg⟩ => frc x (fun y => k ⟨n, n0, (d, y) :: sl, ob, tg⟩)

theorem frcV_eq (v : Value) (c : Value → Rs) : frcV v c = c v := by cases v <;> rfl
theorem frcD_eq (x : D) (c : D → Rs) : frcD x c = c x := by
  cases x with
  | v v => exact frcV_eq v (fun v => c (.v v))
  | sl sz n f => rfl
mutual
theorem frc_eq : ∀ (x : A) (c : A → Rs), frc x c = c x
  | .dead, c => rfl
  | .p x, c => by simp only [frc, frcD_eq]
  | .agg cs, c => by simp only [frc, frcs_eq cs]
  | .tup cs, c => by simp only [frc, frcs_eq cs]
  | .ref o off, c => rfl
  | .imm cs off, c => rfl
  | .own t e sz n f, c => rfl
  | .sref o off n, c => rfl
  | .fn f caps, c => by simp only [frc, frcs_eq caps]
theorem frcs_eq : ∀ (x : List A) (c : List A → Rs), frc.frcs x c = c x
  | [], c => rfl
  | x :: xs, c => by simp only [frc.frcs, frc_eq x, frcs_eq xs]
end
theorem snocO_eq : ∀ (l : List Ob) (x : Ob) (c : List Ob → Rs), snocO l x c = c (l ++ [x])
  | [], x, c => rfl
  | o :: l, x, c => by simp [snocO, snocO_eq l x]
theorem setO_eq : ∀ (l : List Ob) (i : Nat) (x : Ob) (c : List Ob → Rs), setO l i x c = c (obSet l i x)
  | [], i, x, c => by simp [setO, obSet]
  | o :: l, 0, x, c => rfl
  | o :: l, i + 1, x, c => by simp [setO, obSet, setO_eq l i x]
theorem snocB_eq : ∀ (l : List Bool) (x : Bool) (c : List Bool → Rs), snocB l x c = c (l ++ [x])
  | [], x, c => rfl
  | o :: l, x, c => by simp [snocB, snocB_eq l x]
theorem killB_go : ∀ (l : List Bool) (i : Nat) (c : List Bool → Rs), killB.go l i c = c (l.set i false)
  | [], i, c => by simp [killB.go]
  | o :: l, 0, c => rfl
  | o :: l, i + 1, c => by simp [killB.go, killB_go l i]
theorem killB_eq (ts : List Bool) (k : Option Nat) (c : List Bool → Rs) : killB ts k c = c (killT ts k) := by
  cases k with
  | none => rfl
  | some t => exact killB_go ts t c
theorem natK_eq (n : Nat) (c : Nat → Rs) : natK n c = c n := by cases n <;> rfl
theorem putK_eq (st : St) (d : Option Nat) (x : A) (k : St → Rs) : putK st d x k = k (st.put d x) := by
  cases d with
  | none => rfl
  | some d =>
    cases st
    simp only [putK, frc_eq, St.put]

/-- An operation; how a call goes on is told apart. -/
def stepG (T : TT) (st : St) (o : Oper) (call : FuncId → List A → Rs) (k : St → Rs) : Rs := match ev T st o.op with
  | .no => .fail
  | .val x => putK st o.dst x k
  | .valn c x => .need c (putK st o.dst x k)
  | .splt b x y => .split b (putK st o.dst x k) (putK st o.dst y k)
  | .new cs => match st with
    | ⟨n, n0, sl, ob, tg⟩ => frc.frcs cs (fun cs => snocO ob (.cells cs) (fun ob' => natK (lenO ob) (fun i => putK ⟨n, n0, sl, ob', tg⟩ o.dst (.ref i 0) k)))
  | .set i cs => match st with
    | ⟨n, n0, sl, ob, tg⟩ => frc.frcs cs (fun cs => setO ob i (.cells cs) (fun ob' => putK ⟨n, n0, sl, ob', tg⟩ o.dst .dead k))
  | .row c kill e sz n f => match st with
    | ⟨m, n0, sl, ob, tg⟩ => .need c (killB tg kill (fun t1 => snocB t1 true (fun t2 => natK (lenB tg) (fun i => putK ⟨m, n0, sl, ob, t2⟩ o.dst (.own i e sz n f) k))))
  | .bld sz n f => putK st o.dst (.p (.sl sz n f)) k
  | .call f xs => call f xs
def stepE (T : TT) (st : St) (o : Oper) (k : St → Rs) : Rs := stepG T st o (fun f xs => .call f xs st o.dst k) k

def dstAt : List Oper → Nat → Option Nat
  | [], _ => none
  | o :: _, 0 => o.dst
  | _ :: l, j + 1 => dstAt l j
def gd (b : Bool) (x y : Rs) : Rs := match b with
  | true => x
  | false => y

/-- What stands in the slot of an operation that was passed over. -/
def undA : A := .p (.v (.tuple #[]))
/-- An operation of a region, if it is wanted. -/
def stepO (T : TT) (all : List Oper) (o : Oper) (st : St) (k : St → Rs) : Rs := match o.guard with
  | none => stepE T st o k
  | some (j, want) => match dstAt all j with
    | none => .fail
    | some d => match st.get d with
      | .p (.v (.bool b)) => .split b
          (putK st (some d) (vA (.bool true)) fun st1 => gd want (stepE T st1 o k) (putK st1 o.dst undA k))
          (putK st (some d) (vA (.bool false)) fun st1 => gd want (putK st1 o.dst undA k) (stepE T st1 o k))
      | .p (.v (.tuple _)) => putK st o.dst undA k
      | _ => .fail
def execOps (T : TT) (all : List Oper) : List Oper → St → (St → Rs) → Rs
  | [], st, k => k st
  | o :: rest, st, k => stepO T all o st (fun st' => execOps T all rest st' k)

/-! ### regions that draw their order -/
/-- What an operation reads and writes. -/
inductive Rz where
  | slot (d : Nat)
  | ob (o : Nat)
  | cnt
  | tags
def Rz.eqb : Rz → Rz → Bool
  | .slot d, .slot e => Nat.beq d e
  | .ob d, .ob e => Nat.beq d e
  | .cnt, .cnt => true
  | .tags, .tags => true
  | _, _ => false
def slotsZ : List Operand → List Rz
  | [] => []
  | .tmp t :: l => .slot t :: slotsZ l
  | _ :: l => slotsZ l
def dstZ : Option Nat → List Rz
  | some d => [.slot d]
  | none => []
def guardZ (all : List Oper) (o : Oper) : List Rz := match o.guard with
  | none => []
  | some (j, _) => dstZ (dstAt all j)
def refZ : A → List Rz
  | .ref i _ => [.ob i]
  | _ => []
def memZ (st : St) (o : Op) : List Rz := match o with
  | .load _ x => refZ (opnd st x)
  | .store _ x _ => refZ (opnd st x)
  | .alloc _ => [.cnt]
  | .box _ _ => [.cnt]
  | .buildSlice _ n _ => (match n with
    | 0 => [.tags]
    | _ + 1 => [])
  | .call c => (match c.callee with
    | .builtin _ => [.tags]
    | _ => [])
  | _ => []
def rdZ (all : List Oper) (st : St) (o : Oper) : List Rz := guardZ all o ++ (slotsZ o.op.operands.toList ++ memZ st o.op)
def wrZ (st : St) (o : Oper) : Ef → List Rz
  | .new _ => .ob (lenO st.objs) :: .cnt :: dstZ o.dst
  | .set i _ => .ob i :: dstZ o.dst
  | .row .. => .tags :: dstZ o.dst
  | _ => dstZ o.dst
abbrev Rw := List Rz × List Rz
def rzK : List Rz → (List Rz → Rs) → Rs
  | [], c => c []
  | r :: l, c => match r with
    | .slot d => natK d fun d => rzK l fun l => c (.slot d :: l)
    | .ob d => natK d fun d => rzK l fun l => c (.ob d :: l)
    | .cnt => rzK l fun l => c (.cnt :: l)
    | .tags => rzK l fun l => c (.tags :: l)
theorem rzK_eq : ∀ (l : List Rz) (c : List Rz → Rs), rzK l c = c l
  | [], c => rfl
  | r :: l, c => by cases r <;> simp [rzK, natK_eq, rzK_eq l]

def runD (T : TT) (all : List Oper) (o : Oper) (kk : Rw → St → Rs) (st : St) : Rs := rzK (rdZ all st o) fun rd => stepG T st o
  (fun f xs => .pcall f xs fun x => putK st o.dst x (kk (rd, dstZ o.dst)))
  (fun st' => rzK (wrZ st o (ev T st o.op)) fun wr => kk (rd, wr) st')
def skipD (T : TT) (all : List Oper) (o : Oper) (kk : Rw → St → Rs) (st : St) : Rs := putK st o.dst undA (kk (guardZ all o, dstZ o.dst))
def stepD (T : TT) (all : List Oper) (o : Oper) (st : St) (kk : Rw → St → Rs) : Rs := match o.guard with
  | none => runD T all o kk st
  | some (j, want) => match dstAt all j with
    | none => .fail
    | some d => match st.get d with
      | .p (.v (.bool b)) => .split b
          (putK st (some d) (vA (.bool true)) fun st1 => gd want (runD T all o kk st1) (skipD T all o kk st1))
          (putK st (some d) (vA (.bool false)) fun st1 => gd want (skipD T all o kk st1) (runD T all o kk st1))
      | .p (.v (.tuple _)) => skipD T all o kk st
      | _ => .fail
def execD (T : TT) (all : List Oper) : List Oper → St → (List Rw → St → Rs) → Rs
  | [], st, k => k [] st
  | o :: rest, st, k => stepD T all o st (fun rw st' => execD T all rest st' (fun l => k (rw :: l)))

def memZz (r : Rz) : List Rz → Bool
  | [] => false
  | x :: l => match Rz.eqb r x with
    | true => true
    | false => memZz r l
def meetZ : List Rz → List Rz → Bool
  | [], _ => false
  | x :: l, l' => match memZz x l' with
    | true => true
    | false => meetZ l l'
/-- Do two operations stand in each other's way? -/
def clash (a b : Rw) : Bool := meetZ a.2 b.1 || (meetZ a.2 b.2 || meetZ a.1 b.2)
def bindsE (e : Edge) : Bool := match e.ground with
  | .textOnly _ => false
  | .gcOnly _ => false
  | _ => true
/-- What comes ahead of an operation, in whatever order, as bits. -/
def befE (acc : List Nat) : List Edge → Nat → Nat
  | [], s => s
  | e :: l, s => match bindsE e with
    | true => befE acc l (s ||| 2 ^ e.on ||| acc.getD e.on 0)
    | false => befE acc l s
def backE (j : Nat) : List Edge → Bool
  | [] => true
  | e :: l => match bindsE e with
    | true => (match Nat.blt e.on j with
      | true => backE j l
      | false => false)
    | false => backE j l
/-- Operations i, .. (and what they read and write) against one that comes behind them. -/
def aheadOk (b : Nat) (r : Rw) : List Rw → Nat → Bool
  | [], _ => true
  | q :: l, i => match clash q r with
    | true => (match Nat.testBit b i with
      | true => aheadOk b r l (i + 1)
      | false => false)
    | false => aheadOk b r l (i + 1)
def natB (n : Nat) (c : Nat → Bool) : Bool := match n with
  | 0 => c 0
  | n + 1 => c (n + 1)
def snocL {α : Type} : List α → α → (List α → Bool) → Bool
  | [], x, c => c [x]
  | y :: l, x, c => snocL l x fun l => c (y :: l)
def drawOk : List Oper → List Rw → List Rw → List Nat → Bool
  | [], [], _, _ => true
  | o :: l, r :: rs, done, acc => natB (befE acc o.after.toList 0) fun b => match backE acc.length o.after.toList with
    | true => (match aheadOk b r done 0 with
      | true => snocL done r fun done => snocL acc b fun acc => drawOk l rs done acc
      | false => false)
    | false => false
  | _, _, _, _ => false
theorem natB_eq (n : Nat) (c : Nat → Bool) : natB n c = c n := by cases n <;> rfl
theorem snocL_eq {α : Type} : ∀ (l : List α) (x : α) (c : List α → Bool), snocL l x c = c (l ++ [x])
  | [], x, c => rfl
  | y :: l, x, c => by simp [snocL, snocL_eq l]

def firstReg : Code → Option Nat
  | .region id _ _ => some id
  | .seq a _ => firstReg a
  | .block _ c => firstReg c
  | .loop c => firstReg c
  | _ => none
def memN (l : List Nat) (n : Nat) : Bool := match l with
  | [] => false
  | x :: l => match Nat.beq x n with
    | true => true
    | false => memN l n
def isCut (cuts : List Nat) (c : Code) : Bool := match cuts with
  | [] => false
  | x :: l => match firstReg c with
    | some id => memN (x :: l) id
    | none => false

def exec (T : TT) (cuts : List Nat) : Code → (Ex → St → Rs) → St → Rs
  | .skip, k, st => k .normal st
  | .region id ops dr, k, st => match dr with
    | false => execOps T ops.toList ops.toList st (k .normal)
    | true => execD T ops.toList ops.toList st (fun rs st' => match drawOk ops.toList rs [] [] with
      | true => k .normal st'
      | false => .fail)
  | .seq a b, k, st => match isCut cuts a with
    | true => .cut a b st k
    | false => exec T cuts a (fun e st' => match e with
      | .normal => exec T cuts b k st'
      | .exit i => k (.exit i) st'
      | .ret => k .ret st') st
  | .cond c x y, k, st => match opnd st c with
    | .p (.v (.bool b)) => .split b (exec T cuts x k st) (exec T cuts y k st)
    | _ => .fail
  | .block id c, k, st => exec T cuts c (fun e st' => match e with
      | .exit i => (match Nat.beq i id with
        | true => k .normal st'
        | false => k (.exit i) st')
      | .normal => k .normal st'
      | .ret => k .ret st') st
  | .exit id, k, st => k (.exit id) st
  | .ret, k, st => k .ret st
  | .loop c, k, st => .loop c st k
  | _, _, _ => .fail

/-- What a function does, told by abstract values: its arguments, the objects and rows that it is handed; its result, the objects (those that it was handed first) and rows behind it. -/
def Spec (P : Program) (f : FuncId) (args : List A) (obs : List Ob) (tags : List Bool) (Q : A → List Ob → List Bool → Prop) : Prop :=
  ∀ (g : Gh) (vs : Array Value) (w : World), Hp g obs tags w → AVals g w args vs.toList →
    Calls P f vs w (fun e w' => ∃ r obs' tags' g' u, e = .returned u ∧ Q r obs' tags' ∧ AVal g' w' r u ∧ Hp g' obs' tags' w' ∧ Grew w g w' g' ∧ ∀ (i b : Nat), g.blks[i]? = some b → g'.blks[i]? = some b)

theorem Spec.mono {P : Program} {f : FuncId} {args : List A} {obs : List Ob} {tags : List Bool} {Q Q' : A → List Ob → List Bool → Prop} (h : Spec P f args obs tags Q) (hq : ∀ r o t, Q r o t → Q' r o t) : Spec P f args obs tags Q' :=
  fun g vs w h1 h2 => (h g vs w h1 h2).mono fun e w' ⟨r, obs', tags', g', u, a, b, c⟩ => ⟨r, obs', tags', g', u, a, hq _ _ _ b, c⟩

/-- The caller's state behind a call. -/
def backSt (st : St) (m : List Nat) (tl : List (Option Nat)) (d : Option Nat) (r : A) (obs' : List Ob) (tags' : List Bool) : St :=
  { st with objs := upd st.objs m (bkObs m (lenO st.objs) (lenB st.tags) obs'), tags := tcat (die st.tags tl) tags' }.put d (bkA m (lenO st.objs) (lenB st.tags) r)

def obK (o : Ob) (c : Ob → Rs) : Rs := match o with
  | .dead => c .dead
  | .cells cs => frc.frcs cs (fun cs => c (.cells cs))
  | .iter s p => c (.iter s p)
def obsK : List Ob → (List Ob → Rs) → Rs
  | [], c => c []
  | o :: l, c => obK o (fun o => obsK l (fun l => c (o :: l)))
def catK : List Ob → List Ob → (List Ob → Rs) → Rs
  | [], xs, c => c xs
  | o :: l, xs, c => catK l xs (fun l => c (o :: l))
def updK : List Ob → List Nat → List Ob → (List Ob → Rs) → Rs
  | objs, [], xs, c => catK objs xs c
  | objs, o :: m, x :: xs, c => setO objs o x (fun objs => updK objs m xs c)
  | objs, _ :: _, [], c => c objs
def dieK : List Bool → List (Option Nat) → (List Bool → Rs) → Rs
  | ts, [], c => c ts
  | ts, some t :: tl, c => killB ts (some t) (fun ts => dieK ts tl c)
  | ts, none :: tl, c => dieK ts tl c
def catB : List Bool → List Bool → (List Bool → Rs) → Rs
  | [], xs, c => c xs
  | o :: l, xs, c => catB l xs (fun l => c (o :: l))
def backK (st : St) (m : List Nat) (tl : List (Option Nat)) (d : Option Nat) (r : A) (obs' : List Ob) (tags' : List Bool) (k : St → Rs) : Rs := match st with
  | ⟨n, n0, sl, ob, tg⟩ => natK (lenO ob) fun no => natK (lenB tg) fun nt => obsK (bkObs m no nt obs') fun xs => updK ob m xs fun ob2 => dieK tg tl fun t1 => catB t1 tags' fun t2 => putK ⟨n, n0, sl, ob2, t2⟩ d (bkA m no nt r) k

theorem obK_eq (o : Ob) (c : Ob → Rs) : obK o c = c o := by cases o <;> simp [obK, frcs_eq]
theorem obsK_eq : ∀ (l : List Ob) (c : List Ob → Rs), obsK l c = c l
  | [], c => rfl
  | o :: l, c => by simp [obsK, obK_eq, obsK_eq l]
theorem catK_eq : ∀ (l xs : List Ob) (c : List Ob → Rs), catK l xs c = c (l ++ xs)
  | [], xs, c => rfl
  | o :: l, xs, c => by simp [catK, catK_eq l]
theorem updK_eq : ∀ (m : List Nat) (l xs : List Ob) (c : List Ob → Rs), updK l m xs c = c (upd l m xs)
  | [], l, [], c => by simp [updK, upd, catK_eq]
  | [], l, x :: xs, c => by simp [updK, upd, catK_eq]
  | o :: m, l, x :: xs, c => by simp [updK, upd, setO_eq, updK_eq m]
  | o :: m, l, [], c => by simp [updK, upd]
theorem dieK_eq : ∀ (tl : List (Option Nat)) (ts : List Bool) (c : List Bool → Rs), dieK ts tl c = c (die ts tl)
  | [], ts, c => rfl
  | some t :: tl, ts, c => by simp [dieK, die, killB_eq, killT, dieK_eq tl]
  | none :: tl, ts, c => by simp [dieK, die, dieK_eq tl]
theorem catB_eq : ∀ (l xs : List Bool) (c : List Bool → Rs), catB l xs c = c (l ++ xs)
  | [], xs, c => rfl
  | o :: l, xs, c => by simp [catB, catB_eq l]
theorem backK_eq (st : St) (m : List Nat) (tl : List (Option Nat)) (d : Option Nat) (r : A) (obs' : List Ob) (tags' : List Bool) (k : St → Rs) : backK st m tl d r obs' tags' k = k (backSt st m tl d r obs' tags') := by
  cases st
  simp only [backK, natK_eq, obsK_eq, updK_eq, dieK_eq, catB_eq, putK_eq, backSt, tcat_eq]

/-- f is a function of the program's own. -/
structure Own (P : Program) (f : FuncId) : Prop where
  is : ∃ fn, P.funcs[f]? = some fn ∧ fn.body.isNone = false ∧ (fn.name == "runtime.NumGoroutine") = false

/-- A value without objects or rows of the frame's own. -/
def flatA : A → Bool
  | .ref _ _ => false
  | .sref _ _ _ => false
  | .own _ _ _ _ _ => false
  | .agg cs => flats cs
  | .tup cs => flats cs
  | .fn _ cs => flats cs
  | _ => true
where flats : List A → Bool
  | [] => true
  | x :: xs => match flatA x with
    | true => flats xs
    | false => false

/-- A loop's first n rounds. -/
def unr (T : TT) (cuts : List Nat) (c : Code) (k : Ex → St → Rs) : Nat → St → Rs
  | 0, st => .fail
  | n + 1, st => exec T cuts c (fun e st' => match e with
    | .normal => unr T cuts c k n st'
    | .exit i => k (.exit i) st'
    | .ret => k .ret st') st

inductive Sat (P : Program) (T : TT) (cuts : List Nat) : Rs → Prop where
  | goal {c : Prop} (h : c) : Sat P T cuts (.goal c)
  | need {c : Prop} {k : Rs} (h : c) (hk : Sat P T cuts k) : Sat P T cuts (.need c k)
  | split {b : Bool} {k1 k2 : Rs} (h1 : b = true → Sat P T cuts k1) (h2 : b = false → Sat P T cuts k2) : Sat P T cuts (.split b k1 k2)
  | call {f : FuncId} {xs : List A} {st : St} {d : Option Nat} {k : St → Rs} (own : Own P f) (m : List Nat) (tl : List (Option Nat)) {ys : List A} {obs : List Ob} {tgs : List Bool} {Q : A → List Ob → List Bool → Prop}
      (hs : Spec P f ys obs tgs Q) (hle : le.les m tl xs ys) (hh : LeHp m tl st.objs st.tags obs tgs) (next : ∀ r obs' tags', Q r obs' tags' → Sat P T cuts (backK st m tl d r obs' tags' k)) : Sat P T cuts (.call f xs st d k)
  | pcall {f : FuncId} {xs : List A} {k : A → Rs} (own : Own P f) {ys : List A} {x : A} (hs : Spec P f ys [] [] (fun r o t => r = x ∧ o = [] ∧ t = [])) (hle : le.les [] [] xs ys) (hx : flatA x = true) (next : Sat P T cuts (k x)) : Sat P T cuts (.pcall f xs k)
  | loop {c : Code} {st : St} {k : Ex → St → Rs} (ι : Type) (I : ι → St) (μ : ι → Nat) (x0 : ι) (h0 : Weak st (I x0))
      (round : ∀ x, Sat P T cuts (exec T cuts c (fun e st' => match e with
        | .normal => .goal (∃ x', Weak st' (I x') ∧ μ x' < μ x)
        | .exit i => k (.exit i) st'
        | .ret => k .ret st') (I x))) : Sat P T cuts (.loop c st k)
  | unroll {c : Code} {st : St} {k : Ex → St → Rs} (n : Nat) (h : Sat P T cuts (unr T cuts c k n st)) : Sat P T cuts (.loop c st k)
  | cut {x y : Code} {st : St} {k : Ex → St → Rs} (ι : Type) (J : ι → St)
      (first : Sat P T cuts (exec T cuts x (fun e st' => match e with
        | .normal => .goal (∃ i, Weak st' (J i))
        | .exit i => k (.exit i) st'
        | .ret => k .ret st') st))
      (rest : ∀ i, Sat P T cuts (exec T cuts y k (J i))) : Sat P T cuts (.cut x y st k)

theorem Sat.tt {P : Program} {T : TT} {cuts : List Nat} {k1 k2 : Rs} (h : Sat P T cuts k1) : Sat P T cuts (.split true k1 k2) := .split (fun _ => h) (fun h => by cases h)
theorem Sat.ff {P : Program} {T : TT} {cuts : List Nat} {k1 k2 : Rs} (h : Sat P T cuts k2) : Sat P T cuts (.split false k1 k2) := .split (fun h => by cases h) (fun _ => h)
/-- A test of which is known how it ends. -/
theorem Sat.yes {P : Program} {T : TT} {cuts : List Nat} {b : Bool} {k1 k2 : Rs} (hb : b = true) (h : Sat P T cuts k1) : Sat P T cuts (.split b k1 k2) := by subst hb; exact .tt h
theorem Sat.no {P : Program} {T : TT} {cuts : List Nat} {b : Bool} {k1 k2 : Rs} (hb : b = false) (h : Sat P T cuts k2) : Sat P T cuts (.split b k1 k2) := by subst hb; exact .ff h

end Go.Proofs.YtijakklhklcjhaaA
