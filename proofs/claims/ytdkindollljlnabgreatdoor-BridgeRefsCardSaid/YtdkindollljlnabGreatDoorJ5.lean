/-
  THE EXECUTOR, fast: one dispatch for an operation, closed minors. It is the same function (opF_eq).

  THE EXECUTOR, part En: a region whose first part makes blocks in no order: all its orders are tried, one by one (what nothing can change is done first).

  THE EXECUTOR, put together.

  The executor at work: closed calls whose value is written out.

  Summaries of single functions, one ahead of the other; closed runs of which every end has one value.

  A call that was run over some blocks alone, as a summary for every heap that holds these: long runs are cut by it.

  Steps over a map of one entry.

  maps.Keys of a map whose keys are ids (twenty bytes) and whose entries are known: its iterator gives each key once, in whatever order.
-/
import Derived.Test.YtdkindollljlnabGreatDoorJ4
import Derived.KernelRfl
import Derived.RangeFuncNested
import Derived.RangeFuncBound
import Derived.RangeFuncCalls
import Derived.RangeFuncLeaves
import Derived.RangeFuncFrom
import Derived.Shelf.Abstract
import Derived.WalkKit
import Derived.OwnWalkIn
import Derived.TacticsInMore
import Derived.LoopNIn
import Derived.LoopIn
import Derived.RangeFuncOne
import Derived.Sort.MapsRangeIn
import Derived.Maps.AppendAt
import Derived.Maps.RangeRun
import Derived.RangeFuncGives
import Derived.Deep.WholeRow
import Derived.Laws.IdiomRangeMap
import Derived.Test.YtdkindollljlnabGreatDoorChecked
set_option linter.unusedSectionVars false
set_option linter.unusedSimpArgs false
set_option linter.unusedVariables false
namespace Go.Proofs.YtdkindollljlnabGreatDoor
open Go Go.RowKit

variable {P : Program}

abbrev R1 := Option SR
noncomputable def onSome : Option SV → (SV → R1) → R1 := @Option.rec SV (fun _ => (SV → R1) → R1) (fun _ => none) (fun s k => k s)
noncomputable def ev : Operand → Row → (SV → R1) → R1 := @Operand.rec (fun _ => Row → (SV → R1) → R1) (fun t st k => (fun s => @Bool.rec (fun _ => R1) (k s) none (isJ s)) (st.at t)) (fun v _ k => onSome (ofV v) k) (fun g _ k => k (.gptr g 0)) (fun f _ k => k (.fn (.func f) [] []))
theorem ev_eq (x : Operand) (st : Row) (k : SV → R1) : ev x st k = match evalS st x with
    | some s => k s
    | none => none := by
  cases x with
  | const v =>
    show onSome (ofV v) k = match ofV v with | some s => k s | none => none
    cases ofV v <;> rfl
  | tmp t =>
    show @Bool.rec (fun _ => R1) (k (st.at t)) none (isJ (st.at t)) = (match (match isJ (st.at t) with
      | false => some (st.at t)
      | true => none) with
      | some s => k s
      | none => none)
    cases isJ (st.at t) <;> rfl
  | _ => rfl
noncomputable def onPtr : SV → (Nat → Nat → R1) → R1 := @SV.rec (fun _ => (Nat → Nat → R1) → R1) (fun _ => Unit) (fun _ _ => fun _ => none) (fun _ => fun _ => none) (fun _ => fun _ => none) (fun _ => none) (fun _ => none) (fun n off k => k n off) (fun _ _ => fun _ => none) (fun _ _ _ _ => fun _ => none) (fun _ => none) (fun _ _ _ _ _ => fun _ => none) (fun _ => fun _ => none) (fun _ => none) (fun _ _ _ _ _ => fun _ => none) (fun _ => none) (fun _ _ _ => fun _ => none) (fun _ => none) (fun _ _ => fun _ => none) (fun _ _ => fun _ => none) (fun _ => fun _ => none) (fun _ _ _ => fun _ => none) () (fun _ _ _ _ => ())
theorem onPtr_eq (s : SV) (k : Nat → Nat → R1) : onPtr s k = match s with
    | .ptr n off => k n off
    | _ => none := by cases s <;> rfl
noncomputable def onInt : SV → (IntKind → Int → R1) → (Unit → R1) → R1 := @SV.rec (fun _ => (IntKind → Int → R1) → (Unit → R1) → R1) (fun _ => Unit) (fun k n f _ => f k n) (fun _ => fun _ d => d ()) (fun _ => fun _ d => d ()) (fun _ d => d ()) (fun _ d => d ()) (fun _ _ => fun _ d => d ()) (fun _ _ => fun _ d => d ()) (fun _ _ _ _ => fun _ d => d ()) (fun _ d => d ()) (fun _ _ _ _ _ => fun _ d => d ()) (fun _ => fun _ d => d ()) (fun _ d => d ()) (fun _ _ _ _ _ => fun _ d => d ()) (fun _ d => d ()) (fun _ _ _ => fun _ d => d ()) (fun _ d => d ()) (fun _ _ => fun _ d => d ()) (fun _ _ => fun _ d => d ()) (fun _ => fun _ d => d ()) (fun _ _ _ => fun _ d => d ()) () (fun _ _ _ _ => ())
theorem onInt_eq (s : SV) (f : IntKind → Int → R1) (d : Unit → R1) : onInt s f d = match s with
    | .int k n => f k n
    | _ => d () := by cases s <;> rfl
noncomputable def onBool : SV → (Bool → R1) → R1 := @SV.rec (fun _ => (Bool → R1) → R1) (fun _ => Unit) (fun _ _ => fun _ => none) (fun b k => k b) (fun _ => fun _ => none) (fun _ => none) (fun _ => none) (fun _ _ => fun _ => none) (fun _ _ => fun _ => none) (fun _ _ _ _ => fun _ => none) (fun _ => none) (fun _ _ _ _ _ => fun _ => none) (fun _ => fun _ => none) (fun _ => none) (fun _ _ _ _ _ => fun _ => none) (fun _ => none) (fun _ _ _ => fun _ => none) (fun _ => none) (fun _ _ => fun _ => none) (fun _ _ => fun _ => none) (fun _ => fun _ => none) (fun _ _ _ => fun _ => none) () (fun _ _ _ _ => ())
noncomputable def onStr : SV → (List Nat → R1) → (Unit → R1) → R1 := @SV.rec (fun _ => (List Nat → R1) → (Unit → R1) → R1) (fun _ => Unit) (fun _ _ => fun _ d => d ()) (fun _ => fun _ d => d ()) (fun l f _ => f l) (fun _ d => d ()) (fun _ d => d ()) (fun _ _ => fun _ d => d ()) (fun _ _ => fun _ d => d ()) (fun _ _ _ _ => fun _ d => d ()) (fun _ d => d ()) (fun _ _ _ _ _ => fun _ d => d ()) (fun _ => fun _ d => d ()) (fun _ d => d ()) (fun _ _ _ _ _ => fun _ d => d ()) (fun _ d => d ()) (fun _ _ _ => fun _ d => d ()) (fun _ d => d ()) (fun _ _ => fun _ d => d ()) (fun _ _ => fun _ d => d ()) (fun _ => fun _ d => d ()) (fun _ _ _ => fun _ d => d ()) () (fun _ _ _ _ => ())
noncomputable def onTuple : SV → (List SV → R1) → R1 := @SV.rec (fun _ => (List SV → R1) → R1) (fun _ => Unit) (fun _ _ => fun _ => none) (fun _ => fun _ => none) (fun _ => fun _ => none) (fun _ => none) (fun _ => none) (fun _ _ => fun _ => none) (fun _ _ => fun _ => none) (fun _ _ _ _ => fun _ => none) (fun _ => none) (fun _ _ _ _ _ => fun _ => none) (fun _ => fun _ => none) (fun _ => none) (fun _ _ _ _ _ => fun _ => none) (fun _ => none) (fun _ _ _ => fun _ => none) (fun _ => none) (fun _ _ => fun _ => none) (fun l _ k => k l) (fun _ => fun _ => none) (fun _ _ _ => fun _ => none) () (fun _ _ _ _ => ())
noncomputable def onAgg : SV → (List SV → R1) → (Unit → R1) → R1 := @SV.rec (fun _ => (List SV → R1) → (Unit → R1) → R1) (fun _ => Unit) (fun _ _ => fun _ d => d ()) (fun _ => fun _ d => d ()) (fun _ => fun _ d => d ()) (fun _ d => d ()) (fun _ d => d ()) (fun _ _ => fun _ d => d ()) (fun _ _ => fun _ d => d ()) (fun _ _ _ _ => fun _ d => d ()) (fun _ d => d ()) (fun _ _ _ _ _ => fun _ d => d ()) (fun _ => fun _ d => d ()) (fun _ d => d ()) (fun _ _ _ _ _ => fun _ d => d ()) (fun _ d => d ()) (fun _ _ _ => fun _ d => d ()) (fun _ d => d ()) (fun l _ f _ => f l) (fun _ _ => fun _ d => d ()) (fun _ => fun _ d => d ()) (fun _ _ _ => fun _ d => d ()) () (fun _ _ _ _ => ())
noncomputable def onSl : SV → (Nat → Nat → Nat → SCap → R1) → (Nat → Nat → R1) → (Unit → R1) → R1 := @SV.rec (fun _ => (Nat → Nat → Nat → SCap → R1) → (Nat → Nat → R1) → (Unit → R1) → R1) (fun _ => Unit) (fun _ _ => fun _ _ d => d ()) (fun _ => fun _ _ d => d ()) (fun _ => fun _ _ d => d ()) (fun _ _ d => d ()) (fun _ _ d => d ()) (fun n off _ g _ => g n off) (fun _ _ => fun _ _ d => d ()) (fun n off len c f _ _ => f n off len c) (fun _ _ d => d ()) (fun _ _ _ _ _ => fun _ _ d => d ()) (fun _ => fun _ _ d => d ()) (fun _ _ d => d ()) (fun _ _ _ _ _ => fun _ _ d => d ()) (fun _ _ d => d ()) (fun _ _ _ => fun _ _ d => d ()) (fun _ _ d => d ()) (fun _ _ => fun _ _ d => d ()) (fun _ _ => fun _ _ d => d ()) (fun _ => fun _ _ d => d ()) (fun _ _ _ => fun _ _ d => d ()) () (fun _ _ _ _ => ())
noncomputable def isNum : SV → Bool := @SV.rec (fun _ => Bool) (fun _ => Unit) (fun _ _ => false) (fun _ => false) (fun _ => false) (false) (false) (fun _ _ => false) (fun _ _ => false) (fun _ _ _ _ => false) (false) (fun _ _ _ _ _ => false) (fun _ => false) (false) (fun _ _ _ _ _ => false) (false) (fun _ _ _ => false) (false) (fun _ _ => false) (fun _ _ => false) (fun _ => false) (fun _ _ _ => true) () (fun _ _ _ _ => ())
noncomputable def isOne : SV → Bool := @SV.rec (fun _ => Bool) (fun _ => Unit) (fun _ _ => true) (fun _ => true) (fun _ => true) false (true) (fun _ _ => true) (fun _ _ => true) (fun _ _ _ _ => true) (true) (fun _ _ _ _ _ => true) (fun _ => true) (true) (fun _ _ _ _ _ => true) (true) (fun _ _ _ => true) (true) (fun _ _ => false) (fun _ _ => false) (fun _ => true) (fun _ _ _ => true) () (fun _ _ _ _ => ())
noncomputable def onCells : Option SO → (List SV → TypeId → Bool → R1) → R1 := @Option.rec SO (fun _ => (List SV → TypeId → Bool → R1) → R1) (fun _ => none) (@SO.rec (fun _ => (List SV → TypeId → Bool → R1) → R1) (fun l e x k => k l e x) (fun _ _ => none) (fun _ _ _ => none) (fun _ _ _ _ _ => none) (fun _ _ => none))
theorem onCells_eq (o : Option SO) (k : List SV → TypeId → Bool → R1) : onCells o k = match o with
    | some (.cells l e x) => k l e x
    | _ => none := by
  cases o with
  | none => rfl
  | some o => cases o <;> rfl

-- integers
noncomputable def iAdd (a b : Int) : Int :=
  @Int.rec (fun _ => Int) (fun x => @Int.rec (fun _ => Int) (fun y => Int.ofNat (Nat.add x y)) (fun y => Int.add (.ofNat x) (.negSucc y)) b) (fun x => Int.add (.negSucc x) b) a
theorem iAdd_eq (a b : Int) : iAdd a b = Int.add a b := by cases a <;> cases b <;> rfl
noncomputable def iSub (a b : Int) : Int :=
  @Int.rec (fun _ => Int) (fun x => @Int.rec (fun _ => Int) (fun y => @Bool.rec (fun _ => Int) (Int.sub (.ofNat x) (.ofNat y)) (Int.ofNat (Nat.sub x y)) (Nat.ble y x)) (fun y => Int.sub (.ofNat x) (.negSucc y)) b) (fun x => Int.sub (.negSucc x) b) a
theorem iSub_eq (a b : Int) : iSub a b = Int.sub a b := by
  cases a with
  | negSucc x => rfl
  | ofNat x => cases b with
    | negSucc y => rfl
    | ofNat y =>
      show @Bool.rec (fun _ => Int) (Int.sub (.ofNat x) (.ofNat y)) (Int.ofNat (x - y)) (Nat.ble y x) = _
      rw [rec_if]
      split
      · rename_i h
        show ((x - y : Nat) : Int) = (x : Int) - (y : Int)
        omega
      · rfl
noncomputable def wrapQ (k : IntKind) (n : Int) : Int := @Int.rec (fun _ => Int) (fun m => @Bool.rec (fun _ => Int) (wrapF k (.ofNat m)) (.ofNat m) (Nat.blt m (halfOf k))) (fun m => wrapF k (.negSucc m)) n
theorem wrapQ_eq (k : IntKind) (n : Int) : wrapQ k n = wrapF k n := by
  cases n with
  | negSucc m => rfl
  | ofNat m =>
    show @Bool.rec (fun _ => Int) (wrapF k (.ofNat m)) (.ofNat m) (Nat.blt m (halfOf k)) = _
    cases h : Nat.blt m (halfOf k) with
    | false => rfl
    | true =>
      have := Nat.le_of_ble_eq_true h
      exact ((wrapF_eq k (.ofNat m)).trans (wrap_half this)).symm
abbrev IF := IntKind → IntKind → Int → Int → Option SV
noncomputable def samek (k k' : IntKind) (r : Option SV) : Option SV := @Bool.rec (fun _ => Option SV) none r (Nat.beq (kN k) (kN k'))
noncomputable def fAdd : IF := fun k k' a b => samek k k' (some (.int k (wrapQ k (iAdd a b))))
noncomputable def fSub : IF := fun k k' a b => samek k k' (some (.int k (wrapQ k (iSub a b))))
noncomputable def fMul : IF := fun k k' a b => samek k k' (some (.int k (wrapF k (Int.mul a b))))
noncomputable def fAnd : IF := fun k k' a b => samek k k' (natsF k a b Nat.land)
noncomputable def fOr : IF := fun k k' a b => samek k k' (natsF k a b Nat.lor)
noncomputable def fXor : IF := fun k k' a b => samek k k' (natsF k a b Nat.xor)
noncomputable def fEq : IF := fun k k' a b => samek k k' (some (.bool (iEq a b)))
noncomputable def fNe : IF := fun k k' a b => samek k k' (some (.bool (@Bool.rec (fun _ => Bool) true false (iEq a b))))
noncomputable def fLt : IF := fun k k' a b => samek k k' (some (.bool (iLt a b)))
noncomputable def fLe : IF := fun k k' a b => samek k k' (some (.bool (@Bool.rec (fun _ => Bool) true false (iLt b a))))
noncomputable def fGt : IF := fun k k' a b => samek k k' (some (.bool (iLt b a)))
noncomputable def fGe : IF := fun k k' a b => samek k k' (some (.bool (@Bool.rec (fun _ => Bool) true false (iLt a b))))
noncomputable def fNo : IF := fun k k' _ _ => samek k k' none
noncomputable def intFF : BinOp → IF := @BinOp.rec (fun _ => IF) fAdd fSub fMul fNo fNo fAnd fOr fXor (intF .shl) (intF .shr) fNo fEq fNe fLt fLe fGt fGe
theorem intFF_eq (op : BinOp) (k k' : IntKind) (a b : Int) : intFF op k k' a b = intF op k k' a b := by
  cases op with
  | add => show samek k k' (some (.int k (wrapQ k (iAdd a b)))) = _; rw [wrapQ_eq, iAdd_eq]; rfl
  | sub => show samek k k' (some (.int k (wrapQ k (iSub a b)))) = _; rw [wrapQ_eq, iSub_eq]; rfl
  | _ => rfl

-- the operations
abbrev FO := Row → SH → R1
noncomputable def mkO (op : Op) : Oper := ⟨none, op, 0, "", #[], none⟩
noncomputable def slow (P : Program) (op : Op) : FO := fun st σ => sOpN P st (mkO op) σ
noncomputable def oMove (x : Operand) : FO := fun st σ => ev x st fun s => some (.val s σ)
noncomputable def oPick (c a b : Operand) : FO := fun st σ => ev c st fun c => ev a st fun a => ev b st fun b => onBool c fun t => some (.val (@Bool.rec (fun _ => SV) b a t) σ)
noncomputable def oAlloc (P : Program) (T : TypeId) : FO := fun _ σ => sAlloc P σ T
noncomputable def oBox (T : TypeId) (x : Operand) : FO := fun st σ => ev x st fun s => some (sBox σ T s)
noncomputable def evLR (xs : List Operand) (st : Row) : (List SV → R1) → R1 := @List.rec Operand (fun _ => (List SV → R1) → R1) (fun k => k []) (fun x _ ih k => ev x st fun a => ih fun l => k (a :: l)) xs
noncomputable def oBuild (P : Program) (T : TypeId) (ps : Array (Nat × Operand)) : FO := fun st σ => evLR (ps.toList.map (·.2)) st fun l => sBuild P σ T (zipIx (ps.toList.map (·.1)) l)
noncomputable def oBuildSl (P : Program) (T : TypeId) (n : Nat) (ps : Array (Nat × Operand)) : FO := fun st σ => match evalL st (ps.toList.map (·.2)) with
    | some [] => match n with
      | 0 => sBuildNone P σ T
      | n + 1 => sBuildSlice P σ T (n + 1) []
    | some l => sBuildSlice P σ T n (zipIx (ps.toList.map (·.1)) l)
    | none => none
-- is a type's value a row of cells? how many?
noncomputable def aggOf (P : Program) (T : TypeId) : Option (Option Nat) := match P.underlying T with
  | some d => if isAggD d then (match P.info? T with
      | some i => some (some i.size)
      | none => none)
    else some none
  | none => none
noncomputable def loadF (P : Program) (T : TypeId) (off : Nat) (σ : SH) (l : List SV) : R1 := @Option.rec (Option Nat) (fun _ => R1) none (@Option.rec Nat (fun _ => R1) (onSome (lget l off) fun s => some (.val s σ)) (fun z => @Bool.rec (fun _ => R1) none (some (.val (.agg (takeR (dropR l off) z)) σ)) (Nat.ble (Nat.add off z) (lenR l)))) (aggOf P T)
noncomputable def oLoad (P : Program) (T : TypeId) (x : Operand) : FO := fun st σ => ev x st fun s => onPtr s fun n off => onCells (σ.get n) fun l _ _ => loadF P T off σ l
noncomputable def size1 (P : Program) (T : TypeId) : Bool := match P.info? T with
  | some i => Nat.beq i.size 1
  | none => false
noncomputable def oStore (P : Program) (T : TypeId) (x y : Operand) : FO := fun st σ => ev x st fun a => ev y st fun s => @Bool.rec (fun _ => R1) (sStore P σ T a s) (onPtr a fun n off => onCells (σ.get n) fun l e ex => @Bool.rec (fun _ => R1) (sStore P σ T a s) (onSome (lget l off) fun _ => some (.val .undef (σ.put n (some (.cells (lset l off s) e ex))))) (size1 P T)) (isOne s)
noncomputable def nilF : SV → SH → R1 := @SV.rec (fun _ => SH → R1) (fun _ => Unit) (fun _ _ => fun _ => none) (fun _ => fun _ => none) (fun _ => fun _ => none) (fun _ => none) (fun _ => none) (fun n off σ => some (.val (.ptr n off) σ)) (fun _ _ => fun _ => none) (fun _ _ _ _ => fun _ => none) (fun _ => none) (fun _ _ _ _ _ => fun _ => none) (fun _ => fun _ => none) (fun _ => none) (fun f a b _ _ σ => sNilCheck σ (.fn f a b)) (fun _ => none) (fun t v _ σ => some (.val (.iface t v) σ)) (fun _ => none) (fun _ _ => fun _ => none) (fun _ _ => fun _ => none) (fun _ => fun _ => none) (fun _ _ _ => fun _ => none) () (fun _ _ _ _ => ())
noncomputable def oNil (x : Operand) : FO := fun st σ => ev x st fun s => nilF s σ
noncomputable def binF (P : Program) (op : BinOp) (T : TypeId) (x y : Operand) (B : TypeId) (st : Row) (σ : SH) (a b : SV) : R1 :=
  onInt a (fun k m => onInt b (fun k' n => @Option.rec SV (fun _ => R1) (slow P (.binOp op T x y B) st σ) (fun s => some (.val s σ)) (intFF op k k' m n)) fun _ => slow P (.binOp op T x y B) st σ) fun _ =>
  onStr a (fun l => onStr b (fun m => @Option.rec SV (fun _ => R1) none (fun s => some (.val s σ)) (sStr op l m)) fun _ => slow P (.binOp op T x y B) st σ) fun _ => slow P (.binOp op T x y B) st σ
noncomputable def oBin (P : Program) (op : BinOp) (T : TypeId) (x y : Operand) (B : TypeId) : FO := fun st σ => ev x st fun a => ev y st fun b => binF P op T x y B st σ a b
noncomputable def oUn (P : Program) (op : UnOp) (T : TypeId) (x : Operand) : FO := fun st σ => ev x st fun s => sPure1 P σ (Op.unary op) s
-- integers into integers
noncomputable def kindOf (P : Program) (S D : TypeId) : Option IntKind := match P.underlying S, P.underlying D with
  | some _, some (.int k) => some k
  | _, _ => none
noncomputable def oConv (P : Program) (S D : TypeId) (x : Operand) : FO := fun st σ => ev x st fun s => onInt s (fun k n => @Option.rec IntKind (fun _ => R1) (slow P (.convert S D x) st σ) (fun kd => some (.val (.int kd (wrapQ kd n)) σ)) (kindOf P S D)) fun _ => @Bool.rec (fun _ => R1) (sConvert2 P σ S D s) (slow P (.convert S D x) st σ) (isNum s)
noncomputable def oArr (P : Program) (T : TypeId) (x : Operand) : FO := fun st σ => ev x st fun s => sArr P σ T s
noncomputable def oIface (P : Program) (T : TypeId) (x : Operand) : FO := fun st σ => ev x st fun s => sMakeIface P σ T s
noncomputable def oFunc (f : Fn) (xs ys : Array Operand) : FO := fun st σ => evLR xs.toList st fun l => evLR ys.toList st fun m => some (.val (.fn f l m) σ)
noncomputable def oMakeSl (P : Program) (T : TypeId) (x y : Operand) : FO := fun st σ => ev x st fun a => ev y st fun b => sMakeSlice P σ T a b
noncomputable def oSlice (P : Program) (T : TypeId) (x : Operand) (lo hi mx : Option Operand) : FO := fun st σ => match evalS st x, intO st lo, intO st hi, intO st mx with
    | some s, some a, some b, some c => sSlice P σ T s a b c
    | _, _, _, _ => none
noncomputable def fieldOff (P : Program) (S f : Nat) : Option Nat := match P.underlying S with
    | some (.struct fields) => match fields[f]? with
      | some fd => match ssize P fd.type with
        | some k => if k = 0 then none else some fd.offset
        | none => none
      | none => none
    | _ => none
noncomputable def oFieldAddr (P : Program) (S : TypeId) (x : Operand) (f : Nat) : FO := fun st σ => ev x st fun s => onPtr s fun n off => @Option.rec Nat (fun _ => R1) none (fun o => some (.val (.ptr n (Nat.add off o)) σ)) (fieldOff P S f)
-- a field's place and, where it is a row of cells, its size
noncomputable def fieldAt (P : Program) (S f : Nat) : Option (Nat × Option Nat) := match P.underlying S with
    | some (.struct fields) => match fields[f]? with
      | some fd => match P.underlying fd.type with
        | some D => if isAggD D then (match ssize P fd.type with
            | some z => some (fd.offset, some z)
            | none => none)
          else some (fd.offset, none)
        | none => none
      | none => none
    | _ => none
noncomputable def partF (l : List SV) (off : Nat) (z : Option Nat) (σ : SH) : R1 := @Option.rec Nat (fun _ => R1) (onSome (lget l off) fun s => some (.val s σ)) (fun z => some (.val (.agg (takeR (dropR l off) z)) σ)) z
noncomputable def oField (P : Program) (S : TypeId) (x : Operand) (f : Nat) : FO := fun st σ => ev x st fun s => onAgg s (fun l => @Option.rec (Nat × Option Nat) (fun _ => R1) none (@Prod.rec Nat (Option Nat) (fun _ => R1) fun o z => partF l o z σ) (fieldAt P S f)) fun _ => none
-- a row's length (of an array) and an element's size
inductive RI where
  | no
  | arr (len z : Nat)
  | sl (z : Nat)
noncomputable def rowInfo (P : Program) (T : TypeId) : RI := match P.underlying T with
    | some (.array len e) => match ssize P e with
      | some z => .arr len z
      | none => .no
    | some (.slice e) => match ssize P e with
      | some z => .sl z
      | none => .no
    | _ => .no
noncomputable def natR (i : Int) (len : Nat) (k : Nat → R1) : R1 := @Int.rec (fun _ => R1) (fun n => @Bool.rec (fun _ => R1) none (k n) (Nat.blt n len)) (fun _ => none) i
noncomputable def oIndexAddr (P : Program) (T : TypeId) (x i : Operand) : FO := fun st σ => ev x st fun s => ev i st fun t => onInt t (fun _ i => onSl s
  (fun n off len _ => @RI.rec (fun _ => R1) none (fun _ _ => none) (fun z => natR i len fun k => some (.val (.ptr n (Nat.add off (Nat.mul k z))) σ)) (rowInfo P T))
  (fun n off => @RI.rec (fun _ => R1) none (fun len z => natR i len fun k => some (.val (.ptr n (Nat.add off (Nat.mul k z))) σ)) (fun _ => none) (rowInfo P T))
  fun _ => none) fun _ => none
noncomputable def oIndex (P : Program) (T : TypeId) (x i : Operand) : FO := fun st σ => ev x st fun s => ev i st fun t => sIndex P σ T s t
noncomputable def oLookup (P : Program) (T : TypeId) (x k : Operand) (ok : Bool) : FO := fun st σ => match evalS st x, evalS st k with
    | some a, some b => match b with
      | .str l => sLookupStr P σ T ok a (.str l)
      | .int kd l => sLookupInt P σ T ok a (.int kd l)
      | b => sLookup P σ T ok a b
    | _, _ => none
noncomputable def oMapUpd (P : Program) (T : TypeId) (x k v : Operand) : FO := fun st σ => match evalS st x, evalS st k, evalS st v with
    | some a, some b, some c => match b with
      | .str l => sMapUpdStr P σ T a (.str l) c
      | .int kd l => sMapUpdInt P σ T a (.int kd l) c
      | b => sMapUpd P σ T a b c
    | _, _, _ => none
noncomputable def oRange (P : Program) (T : TypeId) (x : Operand) : FO := fun st σ => ev x st fun s => sRange P σ T s
noncomputable def oNext (P : Program) (x : Operand) (b : Bool) : FO := fun st σ => ev x st fun s => sNext P σ b s
noncomputable def oEntry (x : Operand) : FO := fun st σ => ev x st fun s => sEntry σ s
noncomputable def oAssert (P : Program) (x : Operand) (X A : TypeId) (ok : Bool) : FO := fun st σ => ev x st fun s => sAssert P σ A ok s
noncomputable def oExtract (x : Operand) (i : Nat) : FO := fun st σ => ev x st fun s => onTuple s fun l => onSome (lget l i) fun s => some (.val s σ)
noncomputable def oMakeMap (P : Program) (T : TypeId) (r : Option Operand) : FO := fun st σ => @Option.rec Operand (fun _ => R1) (some (.val (.map σ.next) (σ.push (.map [])))) (fun _ => none) r
-- calls
noncomputable def cValue (P : Program) (f : Operand) (args : Array Operand) (tys : Array TypeId) : FO := fun st σ => evLR args.toList st fun l => @Operand.rec (fun _ => R1) (fun t => sCallOp P st ⟨.value (.tmp t), args, tys⟩ σ) (fun v => sCallOp P st ⟨.value (.const v), args, tys⟩ σ) (fun g => sCallOp P st ⟨.value (.global g), args, tys⟩ σ) (fun f => @Bool.rec (fun _ => R1) none (some (.enter f (appR l []) σ)) (goes P f)) f
noncomputable def len1 (P : Program) (args : Array Operand) (tys : Array TypeId) : FO := fun st σ => match args.toList, tys.toList with
    | [x], [T] => ev x st fun s => @Bool.rec (fun _ => R1) (@Option.rec SV (fun _ => R1) none (fun t => some (.val t σ)) (sLen P σ T s)) (slow P (.call ⟨.builtin .len, args, tys⟩) st σ) (isNum s)
    | _, _ => slow P (.call ⟨.builtin .len, args, tys⟩) st σ
noncomputable def oCall (P : Program) (c : Call) : FO := fun st σ => match c with
  | ⟨.value f, args, tys⟩ => cValue P f args tys st σ
  | ⟨.invoke r m, args, tys⟩ => sCallOp P st ⟨.invoke r m, args, tys⟩ σ
  | ⟨.builtin .len, args, tys⟩ => len1 P args tys st σ
  | ⟨.builtin .append, args, tys⟩ => sCallOp P st ⟨.builtin .append, args, tys⟩ σ
  | c => slow P (.call c) st σ
noncomputable def opF (P : Program) : OpF := fun st o σ => @Op.rec (fun _ => FO) oMove oMove oPick (oAlloc P) oBox (oBuild P) (oBuildSl P) (fun _ _ _ _ _ _ => none) (oLoad P) (oStore P) (fun _ _ _ => none) (fun _ _ _ => none) oNil (oBin P) (oUn P) (oConv P) (oArr P) (oIface P) oFunc (oMakeMap P) (fun _ _ _ _ => none) (oMakeSl P) (oSlice P) (oFieldAddr P) (oField P) (oIndexAddr P) (oIndex P) (oLookup P) (oMapUpd P) (fun _ _ _ _ _ => none) (fun _ _ _ _ _ _ => none) (oRange P) (oNext P) oEntry (oAssert P) oExtract (oCall P) (fun _ _ _ => none) (fun _ _ _ => none) (fun _ _ _ => none) (fun _ _ _ _ => none) (fun _ _ _ _ _ => none) (fun _ _ _ _ => none) o.op st σ

theorem evLR_eq (st : Row) : ∀ (xs : List Operand) (k : List SV → R1), evLR xs st k = match evalL st xs with
    | some l => k l
    | none => none := by
  intro xs
  induction xs with
  | nil => intro k; rfl
  | cons x r ih =>
    intro k
    show ev x st (fun a => evLR r st fun l => k (a :: l)) = _
    rw [ev_eq]
    simp only [evalL]
    cases evalS st x with
    | none => rfl
    | some a =>
      simp only [ih]
      cases evalL st r <;> rfl
theorem noNum {st : Row} {o : Oper} {σ : SH} (h : sNum P st o.op = none) : sOpN P st o σ = sOp P st o σ := by unfold sOpN; rw [h]
theorem slow_eq (st : Row) (o : Oper) (σ : SH) : slow P o.op st σ = sOpN P st o σ := rfl
theorem onSome_eq (o : Option SV) (k : SV → R1) : onSome o k = match o with
    | some s => k s
    | none => none := by cases o <;> rfl
theorem opF_eq : opF P = sOpN P := by
  funext st o σ
  obtain ⟨d, op, ty, pos, af, g⟩ := o
  cases op
  case move x => rw [noNum rfl]; exact ev_eq _ _ _
  case assign x => rw [noNum rfl]; exact ev_eq _ _ _
  case pick c a b =>
    rw [noNum rfl]
    show oPick c a b st σ = (match evalS st c, evalS st a, evalS st b with
      | some c, some a, some b => sPick c a b σ
      | _, _, _ => none)
    unfold oPick
    simp only [ev_eq]
    cases evalS st c <;> cases evalS st a <;> cases evalS st b <;> try rfl
    rename_i c a b
    cases c <;> try rfl
    rename_i t; cases t <;> rfl
  case alloc => rw [noNum rfl]; rfl
  case box T x => rw [noNum rfl]; exact ev_eq _ _ _
  case build T ps => rw [noNum rfl]; exact evLR_eq _ _ _
  case buildSlice => rw [noNum rfl]; rfl
  case load T x =>
    rw [noNum rfl]
    refine (ev_eq _ _ _).trans ?_
    show _ = (match evalS st x with
      | some s => sLoad P σ T s
      | none => none)
    cases evalS st x with
    | none => rfl
    | some s =>
      simp only [onPtr_eq]
      unfold sLoad sload
      cases s <;> try rfl
      rename_i n off
      simp only [onCells_eq]
      cases hg : σ.get n with
      | none => rfl
      | some o =>
        cases o <;> try rfl
        rename_i l e x
        simp only
        unfold loadF aggOf
        cases P.underlying T with
        | none => rfl
        | some d =>
          simp only
          by_cases hd : isAggD d
          · simp only [hd, if_true]
            cases P.info? T with
            | none => rfl
            | some i =>
              simp only [rec_if, takeR_eq, dropR_eq, lenR_eq]
              show (if off + i.size ≤ l.length then _ else _) = _
              split <;> rfl
          · simp only [hd, Bool.false_eq_true, if_false]
            cases lget l off <;> rfl
  case store T x y =>
    rw [noNum rfl]
    show oStore P T x y st σ = (match evalS st x, evalS st y with
      | some a, some s => sStore P σ T a s
      | _, _ => none)
    unfold oStore
    simp only [ev_eq]
    cases evalS st x with
    | none => rfl
    | some a =>
      cases evalS st y with
      | none => rfl
      | some s =>
        simp only
        cases ho : isOne s with
        | false => rfl
        | true =>
          have hc : cellsS s = [s] := by cases s <;> first | rfl | (exact absurd ho (by simp [isOne]))
          have h1 : oneS s = true := by cases s <;> first | rfl | (exact absurd ho (by simp [isOne]))
          simp only [onPtr_eq]
          cases a <;> try rfl
          rename_i n off
          unfold sStore sstore
          simp only [onCells_eq]
          cases hg : σ.get n with
          | none => rfl
          | some o =>
            cases o <;> try rfl
            rename_i l e ex
            simp only [size1]
            cases hi : P.info? T with
            | none => simp only [hg, hi]
            | some i =>
              simp only [hc, h1, hg, hi]
              cases hz : Nat.beq i.size 1 with
              | false => rfl
              | true => cases lget l off <;> rfl
  case nilCheck x =>
    rw [noNum rfl]
    refine (ev_eq _ _ _).trans ?_
    show _ = (match evalS st x with
      | some s => sNilCheck σ s
      | none => none)
    cases evalS st x with
    | none => rfl
    | some s => cases s <;> rfl
  case binOp op T x y B =>
    show oBin P op T x y B st σ = _
    unfold oBin binF
    simp only [ev_eq]
    have none1 : evalS st x = none → sOpN P st ⟨d, .binOp op T x y B, ty, pos, af, g⟩ σ = none := fun h => by
      have : sNum P st (.binOp op T x y B) = none := by cases op <;> simp only [sNum, h]
      rw [noNum this]; simp only [sOp, h]
    have none2 : evalS st y = none → sOpN P st ⟨d, .binOp op T x y B, ty, pos, af, g⟩ σ = none := fun h => by
      have : sNum P st (.binOp op T x y B) = none := by
        cases op <;> simp only [sNum, h] <;> (split <;> simp_all)
      rw [noNum this]
      cases hx : evalS st x <;> simp only [sOp, h, hx]
    cases hx : evalS st x with
    | none => exact (none1 hx).symm
    | some a =>
      cases hy : evalS st y with
      | none => exact (none2 hy).symm
      | some b =>
        have hs : slow P (.binOp op T x y B) st σ = sOpN P st ⟨d, .binOp op T x y B, ty, pos, af, g⟩ σ := rfl
        simp only [hs]
        cases a <;> try rfl
        case int k m =>
          cases b <;> try rfl
          rename_i k' n
          show @Option.rec SV (fun _ => R1) _ _ (intFF op k k' m n) = _
          rw [intFF_eq]
          cases hi : intF op k k' m n with
          | none => rfl
          | some s =>
            have h1 : sNum P st (.binOp op T x y B) = none := by cases op <;> simp only [sNum, hx]
            rw [noNum h1]
            have h2 : sNilEq P T x y (.int k m) (.int k' n) = none := by
              unfold sNilEq
              split <;> rfl
            have h3 : ∀ op', op' = op → sBin P σ op' T x y (.int k m) (.int k' n) = some (.val s σ) := fun op' e => by
              subst e; unfold sBin; simp only [hi]
            have e : sOp P st ⟨d, .binOp op T x y B, ty, pos, af, g⟩ σ = sBinary P σ op T x y (.int k m) (.int k' n) := by simp only [sOp, hx, hy]
            rw [e]
            cases op <;> simp only [sBinary, h2] <;> exact (h3 _ rfl).symm
        case str l =>
          cases b <;> try rfl
          rename_i m
          have h1 : sNum P st (.binOp op T x y B) = none := by cases op <;> simp only [sNum, hx]
          rw [noNum h1]
          have h2 : sNilEq P T x y (.str l) (.str m) = none := by
            unfold sNilEq
            split <;> rfl
          have e : sOp P st ⟨d, .binOp op T x y B, ty, pos, af, g⟩ σ = sBinary P σ op T x y (.str l) (.str m) := by simp only [sOp, hx, hy]
          rw [e]
          have h3 : ∀ op', op' = op → sBin P σ op' T x y (.str l) (.str m) = @Option.rec SV (fun _ => R1) none (fun s => some (.val s σ)) (sStr op l m) := fun op' e => by
            subst e; unfold sBin; simp only
            cases sStr op' l m <;> rfl
          cases op <;> simp only [sBinary, h2] <;> exact (h3 _ rfl).symm
  case unOp => rw [noNum rfl]; exact ev_eq _ _ _
  case convert S D x =>
    show oConv P S D x st σ = _
    unfold oConv
    simp only [ev_eq]
    have hs : slow P (.convert S D x) st σ = sOpN P st ⟨d, .convert S D x, ty, pos, af, g⟩ σ := rfl
    simp only [hs]
    cases hx : evalS st x with
    | none =>
      have : sNum P st (.convert S D x) = none := by simp only [sNum, hx]
      rw [noNum this]; simp only [sOp, hx]
    | some s =>
      have e : sOp P st ⟨d, .convert S D x, ty, pos, af, g⟩ σ = sConvert2 P σ S D s := by simp only [sOp, hx]
      have hn : isNum s = false → sNum P st (.convert S D x) = none := fun h => by
        cases s <;> first | (simp only [sNum, hx]; done) | (exact absurd h (by simp [isNum]))
      cases s <;> try (exact ((noNum (hn rfl)).trans e).symm)
      case num => rfl
      case int k n =>
        show @Option.rec IntKind (fun _ => R1) _ _ (kindOf P S D) = _
        unfold kindOf
        split
        · rename_i dS kd hS hD
          rw [noNum (hn rfl), e]
          have e2 : sConvert2 P σ S D (.int k n) = sPure1 P σ (convert S D) (.int k n) := rfl
          rw [e2]
          show some (SR.val (.int kd (wrapQ kd n)) σ) = _
          rw [wrapQ_eq, wrapF_eq]
          have : pureRun P (convert S D (.int k n)) = some (.int kd (kd.wrap n)) := by
            have hS' : ∀ {T : TypeId} {dT : TypeDesc} {β : Type} (f : TypeDesc → Sem β), P.underlying T = some dT → pureRun P (underlying T >>= f) = pureRun P (f dT) := fun {T dT β} f hT => by
              show pureRun P ((match P.underlying T with | some d => (pure d : Sem TypeDesc) | none => stuck "no such type") >>= f) = _
              rw [hT]; rfl
            unfold convert
            rw [hS' _ hS, hS' _ hD]
            rfl
          unfold sPure1
          simp only [plainV, this, ofCell]
        · rfl
  case sliceToArrayPointer => rw [noNum rfl]; exact ev_eq _ _ _
  case makeInterface => rw [noNum rfl]; exact ev_eq _ _ _
  case makeFunc f xs ys =>
    rw [noNum rfl]
    show oFunc f xs ys st σ = (match evalL st xs.toList, evalL st ys.toList with
      | some l, some m => some (.val (.fn f l m) σ)
      | _, _ => none)
    unfold oFunc
    simp only [evLR_eq]
    cases evalL st xs.toList with
    | none => rfl
    | some l => cases evalL st ys.toList <;> rfl
  case makeMap T r => rw [noNum rfl]; cases r <;> rfl
  case makeSlice T x y =>
    rw [noNum rfl]
    show oMakeSl P T x y st σ = (match evalS st x, evalS st y with
      | some a, some b => sMakeSlice P σ T a b
      | _, _ => none)
    unfold oMakeSl
    simp only [ev_eq]
    cases evalS st x <;> cases evalS st y <;> rfl
  case slice => rw [noNum rfl]; rfl
  case fieldAddr S x f =>
    rw [noNum rfl]
    refine (ev_eq _ _ _).trans ?_
    show _ = (match evalS st x with
      | some s => sFieldAddr P σ S f s
      | none => none)
    cases evalS st x with
    | none => rfl
    | some s =>
      cases s <;> try rfl
      rename_i n off
      show @Option.rec Nat (fun _ => R1) none (fun o => some (.val (.ptr n (off + o)) σ)) (fieldOff P S f) = _
      unfold sFieldAddr fieldOff
      cases P.underlying S with
      | none => rfl
      | some D =>
        cases D <;> try rfl
        rename_i fields
        simp only
        cases fields[f]? with
        | none => rfl
        | some fd =>
          simp only
          cases ssize P fd.type with
          | none => rfl
          | some k =>
            simp only
            by_cases h0 : k = 0
            · simp only [h0, if_true]
            · simp only [h0, if_false]
  case field S x f =>
    rw [noNum rfl]
    refine (ev_eq _ _ _).trans ?_
    show _ = (match evalS st x with
      | some s => sField P σ S f s
      | none => none)
    cases evalS st x with
    | none => rfl
    | some s =>
      cases s <;> try rfl
      rename_i l
      show @Option.rec (Nat × Option Nat) (fun _ => R1) none (@Prod.rec Nat (Option Nat) (fun _ => R1) fun o z => partF l o z σ) (fieldAt P S f) = _
      have hp : ∀ o z, partF l o z σ = match (match z with | some z => some (SV.agg ((l.drop o).take z)) | none => l[o]?) with
          | some s => some (.val s σ)
          | none => none := fun o z => by
        cases z with
        | none =>
          show onSome (lget l o) _ = _
          rw [onSome_eq, lget_eq]
        | some z =>
          show some (SR.val (.agg (takeR (dropR l o) z)) σ) = _
          rw [takeR_eq, dropR_eq]
      unfold sField fieldAt sPart
      cases P.underlying S with
      | none => rfl
      | some D =>
        cases D <;> try rfl
        rename_i fields
        simp only
        cases fields[f]? with
        | none => rfl
        | some fd =>
          simp only
          cases P.underlying fd.type with
          | none => rfl
          | some D =>
            simp only
            by_cases ha : isAggD D
            · simp only [ha, if_true]
              cases ssize P fd.type with
              | none => rfl
              | some z => exact hp _ _
            · simp only [ha, Bool.false_eq_true, if_false]
              exact hp _ _
  case indexAddr T x i =>
    rw [noNum rfl]
    show oIndexAddr P T x i st σ = (match evalS st x, evalS st i with
      | some s, some t => sIndexAddr P σ T s t
      | _, _ => none)
    unfold oIndexAddr
    simp only [ev_eq]
    have hn : ∀ (i : Int) (len : Nat) (k : Nat → R1), natR i len k = match natOf i len with
        | some n => k n
        | none => none := fun i len k => by
      cases i with
      | negSucc n => rfl
      | ofNat n =>
        show @Bool.rec (fun _ => R1) none (k n) (Nat.blt n len) = match @Bool.rec (fun _ => Option Nat) none (some n) (Nat.blt n len) with | some n => k n | none => none
        cases Nat.blt n len <;> rfl
    cases evalS st x with
    | none => rfl
    | some s =>
      cases evalS st i with
      | none => rfl
      | some t =>
        simp only
        cases t <;> try rfl
        rename_i ki i
        simp only [onInt_eq]
        unfold sIndexAddr
        simp only
        split
        · rename_i len e n off hu
          show @RI.rec (fun _ => R1) none _ (fun _ => none) (rowInfo P T) = _
          unfold rowInfo
          simp only [hu]
          cases ssize P e with
          | none => cases natOf i len <;> rfl
          | some z =>
            show natR i len _ = _
            rw [hn]
            cases natOf i len <;> rfl
        · rename_i e n off len c hu
          show @RI.rec (fun _ => R1) none (fun _ _ => none) _ (rowInfo P T) = _
          unfold rowInfo
          simp only [hu]
          cases ssize P e with
          | none => cases natOf i len <;> rfl
          | some z =>
            show natR i len _ = _
            rw [hn]
            cases natOf i len <;> rfl
        · rename_i s' o2 s2 h1 h2
          cases s' <;> try rfl
          · rename_i n off
            show @RI.rec (fun _ => R1) none _ (fun _ => none) (rowInfo P T) = _
            unfold rowInfo
            split
            · rename_i len e hu; exact (h1 len e n off hu rfl).elim
            · rename_i e hu; cases ssize P e <;> rfl
            · rfl
          · rename_i n off len c
            show @RI.rec (fun _ => R1) none (fun _ _ => none) _ (rowInfo P T) = _
            unfold rowInfo
            split
            · rename_i len' e hu; cases ssize P e <;> rfl
            · rename_i e hu; exact (h2 e n off len c hu rfl).elim
            · rfl
  case index T x i =>
    rw [noNum rfl]
    show oIndex P T x i st σ = (match evalS st x, evalS st i with
      | some s, some t => sIndex P σ T s t
      | _, _ => none)
    unfold oIndex
    simp only [ev_eq]
    cases evalS st x <;> cases evalS st i <;> rfl
  case lookup => rw [noNum rfl]; rfl
  case mapUpdate => rw [noNum rfl]; rfl
  case range => rw [noNum rfl]; exact ev_eq _ _ _
  case next => rw [noNum rfl]; exact ev_eq _ _ _
  case entry => rw [noNum rfl]; exact ev_eq _ _ _
  case typeAssert => rw [noNum rfl]; exact ev_eq _ _ _
  case extract x i =>
    rw [noNum rfl]
    refine (ev_eq _ _ _).trans ?_
    show _ = (match evalS st x with
      | some s => sExtract σ i s
      | none => none)
    cases evalS st x with
    | none => rfl
    | some s =>
      cases s <;> try rfl
      rename_i l
      show onSome (lget l i) (fun s => some (.val s σ)) = match l[i]? with | some s => some (.val s σ) | none => none
      rw [onSome_eq, lget_eq]
  case call c =>
    obtain ⟨callee, args, tys⟩ := c
    have hcall : sNum P st (.call ⟨callee, args, tys⟩) = none → sOpN P st ⟨d, .call ⟨callee, args, tys⟩, ty, pos, af, g⟩ σ = sCallOp P st ⟨callee, args, tys⟩ σ := fun h => noNum h
    cases callee with
    | value f =>
      have h1 : sNum P st (.call ⟨.value f, args, tys⟩) = none := rfl
      rw [hcall h1]
      show cValue P f args tys st σ = _
      unfold cValue
      rw [evLR_eq]
      have hn : evalL st args.toList = none → sCallOp P st ⟨.value f, args, tys⟩ σ = none := fun h => by
        simp only [sCallOp, h]; split <;> simp_all
      cases ha : evalL st args.toList with
      | none => exact (hn ha).symm
      | some l =>
        cases f with
        | func f =>
          show @Bool.rec (fun _ => R1) none (some (.enter f (appR l []) σ)) (goes P f) = _
          rw [appR_eq, List.append_nil]
          simp only [sCallOp, evalS, ha, List.nil_append, List.append_nil]
          cases goes P f <;> rfl
        | _ => rfl
    | invoke r m => rfl
    | builtin b =>
      cases b <;> try rfl
      case len =>
        show len1 P args tys st σ = _
        unfold len1
        split
        · rename_i x T ha ht
          rw [ev_eq]
          have e : sCallOp P st ⟨.builtin .len, args, tys⟩ σ = match evalS st x with
            | some s => match sLen P σ T s with
              | some t => some (.val t σ)
              | none => none
            | none => none := by simp only [sCallOp, ha, ht]; rfl
          have hnum : ∀ {r : Option SV}, evalS st x = r → (∀ s, r = some s → isNum s = false) → sNum P st (.call ⟨.builtin .len, args, tys⟩) = none := fun {r} hx hr => by
            simp only [sNum, ha, ht, hx]
            cases r with
            | none => rfl
            | some s => have := hr s rfl; cases s <;> first | rfl | (exact absurd this (by simp [isNum]))
          cases hx : evalS st x with
          | none =>
            rw [hcall (hnum hx fun s h => by cases h), e, hx]
          | some s =>
            simp only
            cases hnm : isNum s with
            | true => rfl
            | false =>
              rw [hcall (hnum hx fun s' h => by cases h; exact hnm), e, hx]
              simp only
              cases sLen P σ T s <;> rfl
        · rfl
  all_goals (rw [noNum rfl]; rfl)
end Go.Proofs.YtdkindollljlnabGreatDoor

namespace Go.Proofs.YtdkindollljlnabGreatDoor
open Go Go.RowKit
variable [Known]

variable {P : Program} {w0 : Base}

/-- May the operation come up? M: what is listed. -/
noncomputable def freeM (M : List Nat) (o : Oper) (i : Nat) : Bool := (!memN i M) && (needsL o).all (fun d => memN d M)
theorem freeM_ok {M : List Nat} {o : Oper} {i : Nat} : freeM M o i = true ↔ memN i M = false ∧ ∀ d ∈ needsL o, memN d M = true := by
  unfold freeM
  simp [Bool.and_eq_true, List.all_eq_true]
/-- The first operation that may come up and that nothing can change, with its value. -/
noncomputable def enCalm (still pure_ : Op → Bool) (op : OpF) (ops : Array Oper) (M : List Nat) (st : Row) (σ : SH) : List Oper → Nat → Option (Nat × Oper × SV)
  | [], _ => none
  | o :: r, i => match freeM M o i with
    | false => enCalm still pure_ op ops M st σ r (i + 1)
    | true => match wantS ops o st with
      | some false => some (i, o, .undef)
      | some true => match still o.op && pure_ o.op with
        | false => enCalm still pure_ op ops M st σ r (i + 1)
        | true => match op st o σ with
          | some (.val v _) => some (i, o, v)
          | _ => enCalm still pure_ op ops M st σ r (i + 1)
      | none => enCalm still pure_ op ops M st σ r (i + 1)
/-- Nothing that happens elsewhere changes what the operation gives. -/
def CalmS (ops : Array Oper) (op : OpF) (row : Row) (o : Oper) (v : SV) : Prop := (wantS ops o row = some false ∧ v = .undef) ∨ (wantS ops o row = some true ∧ ∀ σ, op row o σ = some (.val v σ))
theorem enCalm_ok {still pure_ : Op → Bool} {op : OpF} (hstill : ∀ st o σ s σ', still o.op = true → op st o σ = some (.val s σ') → σ' = σ)
    (hpure : ∀ st o σ s σ' σ1, pure_ o.op = true → op st o σ = some (.val s σ') → ∃ σ2, op st o σ1 = some (.val s σ2)) {ops : Array Oper} {M : List Nat} {st : Row} {σ : SH} :
    ∀ (l : List Oper) (n i : Nat) (o : Oper) (v : SV), enCalm still pure_ op ops M st σ l n = some (i, o, v) → n ≤ i ∧ l[i - n]? = some o ∧ freeM M o i = true ∧ CalmS ops op st o v := by
  intro l
  induction l with
  | nil => intro n i o v h; unfold enCalm at h; cases h
  | cons x r ih =>
    intro n i o v h
    have up : enCalm still pure_ op ops M st σ r (n + 1) = some (i, o, v) → n ≤ i ∧ (x :: r)[i - n]? = some o ∧ freeM M o i = true ∧ CalmS ops op st o v := fun h => by
      obtain ⟨h1, h2, h3⟩ := ih (n + 1) i o v h
      refine ⟨by omega, ?_, h3⟩
      rw [show i - n = (i - (n + 1)) + 1 by omega, List.getElem?_cons_succ]; exact h2
    unfold enCalm at h
    split at h
    · exact up h
    · rename_i hf
      split at h
      · rename_i hw
        cases h
        exact ⟨Nat.le_refl _, by simp, hf, .inl ⟨hw, rfl⟩⟩
      · rename_i hw
        split at h
        · exact up h
        · rename_i hs
          rw [Bool.and_eq_true] at hs
          split at h
          · rename_i v' σ' ho
            cases h
            refine ⟨Nat.le_refl _, by simp, hf, .inr ⟨hw, fun σ1 => ?_⟩⟩
            obtain ⟨σ2, h2⟩ := hpure _ _ _ _ _ σ1 hs.2 ho
            have := hstill _ _ _ _ _ hs.1 h2
            subst this; exact h2
          · exact up h
      · exact up h
noncomputable def appO (a b : Option Outs) : Option Outs := match a with
  | none => none
  | some x => match b with
    | none => none
    | some y => some (x ++ y)
theorem appO_some {a b : Option Outs} {z : Outs} (h : appO a b = some z) : ∃ x y, a = some x ∧ b = some y ∧ (∀ t ∈ x, t ∈ z) ∧ ∀ t ∈ y, t ∈ z := by
  unfold appO at h
  split at h
  · cases h
  · split at h
    · cases h
    · cases h
      exact ⟨_, _, rfl, rfl, fun t ht => List.mem_append_left _ ht, fun t ht => List.mem_append_right _ ht⟩
/-- All that may come up now, one by one. -/
noncomputable def enBr (op : OpF) (call : CallF) (ops : Array Oper) (M : List Nat) (st : Row) (σ : SH) (rec_ : List Nat → Row → SH → Option Outs) : List Oper → Nat → Option Outs
  | [], _ => some []
  | o :: r, i => match freeM M o i with
    | false => enBr op call ops M st σ rec_ r (i + 1)
    | true => match wantS ops o st with
      | some true => match op st o σ with
        | some (.val v σ') => appO (rec_ (i :: M) (putS st o.dst v) σ') (enBr op call ops M st σ rec_ r (i + 1))
        | some (.enter g args σ1) => match call g args σ1 with
          | some l => appO (bindK l fun x => rec_ (i :: M) (putS st o.dst x.1) x.2) (enBr op call ops M st σ rec_ r (i + 1))
          | none => none
        | none => none
      | _ => none
theorem enBr_ok {op : OpF} {call : CallF} {ops : Array Oper} {M : List Nat} {st : Row} {σ : SH} {rec_ : List Nat → Row → SH → Option Outs} :
    ∀ (l : List Oper) (n : Nat) (outs : Outs), enBr op call ops M st σ rec_ l n = some outs → ∀ i o, n ≤ i → l[i - n]? = some o → freeM M o i = true → wantS ops o st = some true ∧
      ((∃ v σ' outs', op st o σ = some (.val v σ') ∧ rec_ (i :: M) (putS st o.dst v) σ' = some outs' ∧ ∀ x ∈ outs', x ∈ outs) ∨
       (∃ g args σ1 l, op st o σ = some (.enter g args σ1) ∧ call g args σ1 = some l ∧ ∀ x ∈ l, ∃ outs', rec_ (i :: M) (putS st o.dst x.1) x.2 = some outs' ∧ ∀ y ∈ outs', y ∈ outs)) := by
  intro l
  induction l with
  | nil => intro n outs h i o _ hl; simp at hl
  | cons x r ih =>
    intro n outs h i o hni hl hf
    have up : ∀ outs1, enBr op call ops M st σ rec_ r (n + 1) = some outs1 → (∀ y ∈ outs1, y ∈ outs) → i ≠ n → wantS ops o st = some true ∧
      ((∃ v σ' outs', op st o σ = some (.val v σ') ∧ rec_ (i :: M) (putS st o.dst v) σ' = some outs' ∧ ∀ x ∈ outs', x ∈ outs) ∨
       (∃ g args σ1 l, op st o σ = some (.enter g args σ1) ∧ call g args σ1 = some l ∧ ∀ x ∈ l, ∃ outs', rec_ (i :: M) (putS st o.dst x.1) x.2 = some outs' ∧ ∀ y ∈ outs', y ∈ outs)) := fun outs1 h1 hs hne => by
      have hl' : r[i - (n + 1)]? = some o := by
        rw [show i - n = (i - (n + 1)) + 1 by omega, List.getElem?_cons_succ] at hl; exact hl
      obtain ⟨g1, g2⟩ := ih (n + 1) outs1 h1 i o (by omega) hl' hf
      refine ⟨g1, ?_⟩
      rcases g2 with ⟨v, σ', outs', a1, a2, a3⟩ | ⟨g, args, σ1, l, a1, a2, a3⟩
      · exact .inl ⟨v, σ', outs', a1, a2, fun y hy => hs y (a3 y hy)⟩
      · refine .inr ⟨g, args, σ1, l, a1, a2, fun y hy => ?_⟩
        obtain ⟨outs', b1, b2⟩ := a3 y hy
        exact ⟨outs', b1, fun z hz => hs z (b2 z hz)⟩
    have here : i = n → o = x := fun e => by subst e; simp at hl; exact hl.symm
    unfold enBr at h
    split at h
    · rename_i hff
      refine up outs h (fun _ hy => hy) fun e => ?_
      have := here e; subst this; subst e
      rw [hf] at hff; cases hff
    · split at h
      · rename_i hw
        split at h
        · rename_i v σ' ho
          obtain ⟨x1, y1, a1, a2, a3, a4⟩ := appO_some h
          by_cases hin : i = n
          · have := here hin; subst this; subst hin
            exact ⟨hw, .inl ⟨v, σ', x1, ho, a1, a3⟩⟩
          · exact up y1 a2 a4 hin
        · rename_i g args σ1 ho
          split at h
          · rename_i l hc
            obtain ⟨x1, y1, a1, a2, a3, a4⟩ := appO_some h
            by_cases hin : i = n
            · have := here hin; subst this; subst hin
              refine ⟨hw, .inr ⟨g, args, σ1, l, ho, hc, fun y hy => ?_⟩⟩
              obtain ⟨z, b1, b2⟩ := bindK_mem a1 y hy
              exact ⟨z, b1, fun t ht => a3 t (b2 t ht)⟩
            · exact up y1 a2 a4 hin
          · cases h
        · cases h
      · cases h
noncomputable def allM (M : List Nat) : Nat → Bool
  | 0 => true
  | n + 1 => memN n M && allM M n
theorem allM_ok {M : List Nat} : ∀ {n : Nat}, allM M n = true ↔ ∀ j < n, memN j M = true := by
  intro n
  induction n with
  | zero => simp [allM]
  | succ n ih =>
    simp only [allM, Bool.and_eq_true, ih]
    constructor
    · rintro ⟨h1, h2⟩ j hj
      rcases Nat.lt_or_ge j n with h | h
      · exact h2 j h
      · rw [show j = n by omega]; exact h1
    · intro h; exact ⟨h n (by omega), fun j hj => h j (by omega)⟩
noncomputable def enRun (still pure_ : Op → Bool) (op : OpF) (call : CallF) (ops : Array Oper) (p : Nat) (k : KS) : Nat → List Nat → Row → SH → Option Outs
  | 0, M, st, σ => match allM M p with
    | true => xOpsK op call ops (ops.toList.drop p) st σ k
    | false => none
  | n + 1, M, st, σ => match allM M p with
    | true => xOpsK op call ops (ops.toList.drop p) st σ k
    | false => match enCalm still pure_ op ops M st σ (ops.toList.take p) 0 with
      | some (i, o, v) => enRun still pure_ op call ops p k n (i :: M) (putS st o.dst v) σ
      | none => enBr op call ops M st σ (fun M' st' σ' => enRun still pure_ op call ops p k n M' st' σ') (ops.toList.take p) 0

theorem fillS_congrf {ops : Array Oper} {f f' : Nat → SV} {st : Row} {m : Nat → Bool} : ∀ k, (∀ j < k, m j = true → f j = f' j) → fillS ops f st m k = fillS ops f' st m k := by
  intro k
  induction k with
  | zero => intro _; rfl
  | succ k ih =>
    intro h
    simp only [fillS]
    rw [ih (fun j hj => h j (by omega))]
    cases hm : m k with
    | false => rfl
    | true => rw [h k (by omega) hm]
def updF (f : Nat → SV) (i : Nat) (v : SV) (j : Nat) : SV := if j = i then v else f j
/-- The slots behind one more. -/
theorem fill_more {ops : Array Oper} {p : Nat} (hsh : Shape ops p) {f : Nat → SV} {st0 : Row} {m : Nat → Bool} {i : Nat} {o : Oper} {v : SV} (ho : ops[i]? = some o) (hip : i < p) (hm : m i = false) :
    fillS ops (updF f i v) st0 (fun j => m j || j == i) p = putS (fillS ops f st0 m p) o.dst v := by
  have hslot : slotOf ops i = o.dst := by unfold slotOf; rw [ho]; rfl
  rw [fillS_setp (ops := ops) (f := updF f i v) (st := st0) (m := m) (i := i) (p := p) (fun q d hq g1 g2 => hsh.slots q i d hq hip g1 g2) hm p (Nat.le_refl _) hip, hslot]
  rw [fillS_congrf (f := updF f i v) (f' := f) p (fun j _ hj => by unfold updF; rw [if_neg]; intro e; subst e; rw [hm] at hj; cases hj)]
  unfold updF; rw [if_pos rfl]
theorem memN_cons {j i : Nat} {M : List Nat} : memN j (i :: M) = (memN j M || j == i) := by
  have e : memN j (i :: M) = @Bool.rec (fun _ => Bool) (memN j M) true (Nat.beq j i) := rfl
  rw [e]
  cases h : Nat.beq j i with
  | true => have := Nat.eq_of_beq_eq_true h; subst this; simp
  | false => have := Nat.ne_of_beq_eq_false h; simp [this]
theorem CalmS.cong {ops : Array Oper} {op : OpF} (hcong : OpCong op) {row row' : Row} {o : Oper} {v : SV} (h : CalmS ops op row o v) (he : ∀ t, t ∈ o.looksAt ops → row.at t = row'.at t) : CalmS ops op row' o v := by
  rcases h with ⟨h1, h2⟩ | ⟨h1, h2⟩
  · exact .inl ⟨(wantS_cong he) ▸ h1, h2⟩
  · refine .inr ⟨(wantS_cong he) ▸ h1, fun σ => ?_⟩
    rw [← hcong ops _ _ o σ he]; exact h2 σ

/-- What holds all along. -/
structure EnI (P : Program) (w0 : Base) (op : OpF) (ops : Array Oper) (p : Nat) (st0 : Row) (env0 : Env) (M : List Nat) (f : Nat → SV) (σ : SH) (fuel : Nat) (L : Array Bool) (a : Act) (w : World) (env : Env) : Prop where
  size : L.size = ops.size
  fuel : unlisted L ops.size ≤ fuel
  tail : ∀ i, p ≤ i → L.getD i false = false
  sub : ∀ i, L.getD i false = true → memN i M = true
  calm : ∀ i o, ops[i]? = some o → memN i M = true → L.getD i false = false → CalmS ops op (fillS ops f st0 (fun j => memN j M) p) o (f i)
  closed : Closed ops L
  ones : env.ones
  le : env0.le env
  rel : Rel P w0 env σ w
  frel : FRel env (fillS ops f st0 (fun j => L.getD j false) p) a
/-- What is listed in M has what it needs in M. -/
def MClosed (ops : Array Oper) (p : Nat) (M : List Nat) : Prop := ∀ j, memN j M = true → j < p ∧ ∀ o, ops[j]? = some o → ∀ d ∈ needsL o, memN d M = true

section
variable {op : OpF} {call : CallF} {ops : Array Oper} {p : Nat} {st0 : Row} {env0 : Env} {M : List Nat} {f : Nat → SV} {σ : SH}
/-- The slots that an operation looks at are the same in both rows. -/
theorem look_same (hsh : Shape ops p) {i : Nat} {o : Oper} (ho : ops[i]? = some o) (hip : i < p) {m m' : Nat → Bool} (hm : ∀ d ∈ needsL o, m d = true) (hm' : ∀ d ∈ needsL o, m' d = true) :
    ∀ t, t ∈ o.looksAt ops → (fillS ops f st0 m p).at t = (fillS ops f st0 m' p).at t := fun t ht =>
  fillS_look p fun q hq hqt => by
    obtain ⟨_, e, he, hb, rfl⟩ := hsh.reads i o hip ho q t hq hqt ht
    have hd : e.on ∈ needsL o := mem_needs.2 ⟨e, he, hb, rfl⟩
    rw [hm _ hd, hm' _ hd]
/-- One more is listed in M: what was calm stays so. -/
theorem calm_more (hcong : OpCong op) (hsh : Shape ops p) (hM : MClosed ops p M) {i : Nat} {oi : Oper} (hoi : ops[i]? = some oi) (hip : i < p) (hi : memN i M = false) (v : SV) {j : Nat} {o : Oper} (ho : ops[j]? = some o) (hj : memN j M = true)
    (h : CalmS ops op (fillS ops f st0 (fun j => memN j M) p) o (f j)) : CalmS ops op (fillS ops (updF f i v) st0 (fun j => memN j (i :: M)) p) o (updF f i v j) := by
  have hne : j ≠ i := fun e => by subst e; rw [hi] at hj; cases hj
  have hv : updF f i v j = f j := by unfold updF; rw [if_neg hne]
  rw [hv]
  refine h.cong hcong fun t ht => ?_
  have e1 : fillS ops (updF f i v) st0 (fun j => memN j (i :: M)) p = putS (fillS ops f st0 (fun j => memN j M) p) oi.dst v := by
    rw [← fill_more hsh hoi hip hi (v := v)]
    exact fillS_congr p fun j _ => memN_cons
  rw [e1]
  cases hd : oi.dst with
  | none => rfl
  | some d =>
    have hne' : d ≠ t := fun e => by
      subst e
      obtain ⟨_, e, he, hb, he2⟩ := hsh.reads j o (hM j hj).1 ho i d hip (by unfold slotOf; rw [hoi]; exact hd) ht
      have := (hM j hj).2 o ho e.on (mem_needs.2 ⟨e, he, hb, rfl⟩)
      rw [he2, hi] at this; cases this
    rw [putS_some, Row.at_set_ne]
    exact fun e => hne' e.symm
theorem MClosed.more (hM : MClosed ops p M) {i : Nat} {o : Oper} (ho : ops[i]? = some o) (hip : i < p) (hn : ∀ d ∈ needsL o, memN d M = true) : MClosed ops p (i :: M) := by
  intro j hj
  rw [memN_cons, Bool.or_eq_true] at hj
  rcases hj with hj | hj
  · exact ⟨(hM j hj).1, fun o' ho' d hd => by rw [memN_cons, (hM j hj).2 o' ho' d hd]; rfl⟩
  · have : j = i := by simpa using hj
    subst this
    exact ⟨hip, fun o' ho' d hd => by rw [ho] at ho'; cases ho'; rw [memN_cons, hn d hd]; rfl⟩
end
section
variable {op : OpF} {call : CallF} {ops : Array Oper} {p : Nat} {st0 : Row} {env0 : Env}
theorem setL {L : Array Bool} {i : Nat} (hi : i < L.size) (q : Nat) : (L.setIfInBounds i true).getD q false = (L.getD q false || q == i) := by
  by_cases hq : q = i
  · subst hq; simp [hi]
  · rw [getD_set_ne false (Ne.symm hq)]; simp [hq]

/-- One state of the orders: what was calm may come up at any time; the rest as told. -/
theorem en_inner (hop : OpSound P w0 op) (hcong : OpCong op) (hsh : Shape ops p) {Q : Exit → Act → World → Prop} {M : List Nat} {f : Nat → SV} {σ : SH} (hM : MClosed ops p M)
    (hend : ∀ fuel L a w env, EnI P w0 op ops p st0 env0 M f σ fuel L a w env → (∀ i, i < p → L.getD i false = true) → wpAny P .any ops Q fuel L a w)
    (hmov : ∀ fuel L a w env i o, EnI P w0 op ops p st0 env0 M f σ (fuel + 1) L a w env → ops[i]? = some o → i < p → memN i M = false → L.getD i false = false → (∀ d ∈ needsL o, L.getD d false = true) →
      wpOp P ops Q i (wpAny P .any ops Q fuel (L.setIfInBounds i true)) a w) :
    ∀ fuel L a w env, EnI P w0 op ops p st0 env0 M f σ fuel L a w env → wpAny P .any ops Q fuel L a w := by
  intro fuel
  induction fuel with
  | zero =>
    intro L a w env h
    refine hend 0 L a w env h fun i hi => ?_
    have := unlisted_zero (L := L) ops.size (by have := h.fuel; omega) i (by have := hsh.le; omega)
    rw [getD_both (by have := hsh.le; have := h.size; omega)]; exact this
  | succ fuel ih =>
    intro L a w env h
    by_cases hall : ∀ i, i < p → L.getD i false = true
    · exact hend _ L a w env h hall
    refine ⟨fun hrd => absurd (fun i hi => shape_listed hsh h.size hrd i (by have := hsh.le; omega)) hall, fun i hi => ?_⟩
    obtain ⟨h0, o, ho, hneed⟩ := mem_ready.1 hi
    have hlt : i < ops.size := (Array.getElem?_eq_some_iff.1 ho).1
    have hLs := h.size
    have hip : i < p := by
      rcases Nat.lt_or_ge i p with hh | hh
      · exact hh
      · exact absurd (fun q hq => h.closed.ready ho hneed (hsh.tail i q hh hlt (by omega))) hall
    have hfal : L.getD i false = false := by rw [getD_both (by omega)]; exact h0
    have hneed' : ∀ d ∈ needsL o, L.getD d false = true := fun d hd => by
      obtain ⟨e, he, hb, rfl⟩ := mem_needs.1 hd
      exact hneed e he hb
    cases hm : memN i M with
    | false => exact hmov fuel L a w env i o h ho hip hm hfal hneed'
    | true =>
      have hc := h.calm i o ho hm hfal
      have hrow := (hc.cong hcong (look_same (f := f) (st0 := st0) hsh ho hip (m := fun j => memN j M) (m' := fun j => L.getD j false) (fun d hd => h.sub d (hneed' d hd)) hneed'))
      have hslot : slotOf ops i = o.dst := by unfold slotOf; rw [ho]; rfl
      have next : ∀ (env' : Env) (v : Value) (w' : World), env.le env' → Rel P w0 env' σ w' → den env' (f i) = some v → wpAny P .any ops Q fuel (L.setIfInBounds i true) (a.put o.dst v) w' := by
        intro env' v w' hle hr hd
        refine ih _ _ _ env' ⟨by simp [hLs], ?_, fun q hq => ?_, fun q hq => ?_, fun q oq hoq hq hlq => ?_, h.closed.set ho hneed (by omega), h.ones.le hle, h.le.trans' hle, hr, ?_⟩
        · have := (unlisted_set h0 ops.size).2 hlt; have := h.fuel; omega
        · rw [setL (by omega), h.tail q hq]
          have : (q == i) = false := by simp; omega
          rw [this]; rfl
        · rw [setL (by omega), Bool.or_eq_true] at hq
          rcases hq with hq | hq
          · exact h.sub q hq
          · have : q = i := by simpa using hq
            subst this; exact hm
        · rw [setL (by omega), Bool.or_eq_false_iff] at hlq
          exact h.calm q oq hoq hq hlq.1
        · have e : fillS ops f st0 (fun j => (L.setIfInBounds i true).getD j false) p = putS (fillS ops f st0 (fun j => L.getD j false) p) o.dst (f i) := by
            rw [fillS_congr (m' := fun j => L.getD j false || j == i) p (fun q _ => setL (by omega) q), fillS_setp (ops := ops) (f := f) (st := st0) (i := i) (p := p) (fun q d hq g1 g2 => hsh.slots q i d hq hip g1 g2) hfal p (Nat.le_refl _) hip, hslot]
          rw [e]
          exact putS_ok (h.frel.mono hle) hd
      unfold wpOp
      simp only [ho]
      rcases hrow with ⟨g1, g2⟩ | ⟨g1, g2⟩
      · rw [wantS_ok g1 h.frel]
        simp only [Bool.false_eq_true, if_false]
        exact next env undef w (Env.le_refl _) h.rel (by rw [g2]; simp only [den])
      · rw [wantS_ok g1 h.frel]
        simp only [if_true]
        left
        obtain ⟨env', v, w', hrun, hle', hrel, hd⟩ := hop _ o σ _ env a w (g2 σ) h.ones h.rel h.frel
        rcases hrun with hrun | ⟨hrun, rfl⟩
        · simp only [Oper.wp, hrun, Oper.upon]; exact next env' v w' hle' hrel hd
        · simp only [Oper.wp, hrun, Oper.upon]; exact next env' _ w' hle' hrel hd

theorem en_ok {still pure_ : Op → Bool} (hop : OpSound P w0 op) (hcong : OpCong op) (hstill : ∀ st o σ s σ', still o.op = true → op st o σ = some (.val s σ') → σ' = σ)
    (hpure : ∀ st o σ s σ' σ1, pure_ o.op = true → op st o σ = some (.val s σ') → ∃ σ2, op st o σ1 = some (.val s σ2)) (hcall : CallSound P w0 call) (hsh : Shape ops p) {Q : Exit → Act → World → Prop} {kk : KS} {outsA : Outs}
    (hq : ∀ st' σ' outs', kk st' σ' = some outs' → (∀ x ∈ outs', x ∈ outsA) → ∀ env' a' w', env0.le env' → Rel P w0 env' σ' w' → FRel env' st' a' → Q .normal a' w') :
    ∀ (n : Nat) (M : List Nat) (f : Nat → SV) (σ : SH) (outs : Outs), MClosed ops p M → enRun still pure_ op call ops p kk n M (fillS ops f st0 (fun j => memN j M) p) σ = some outs → (∀ x ∈ outs, x ∈ outsA) →
      ∀ fuel L a w env, EnI P w0 op ops p st0 env0 M f σ fuel L a w env → wpAny P .any ops Q fuel L a w := by
  -- all are listed
  have htail : ∀ (M : List Nat) (f : Nat → SV) (σ : SH) (outs : Outs), MClosed ops p M → allM M p = true → xOpsK op call ops (ops.toList.drop p) (fillS ops f st0 (fun j => memN j M) p) σ kk = some outs → (∀ x ∈ outs, x ∈ outsA) →
      ∀ fuel L a w env, EnI P w0 op ops p st0 env0 M f σ fuel L a w env → wpAny P .any ops Q fuel L a w := by
    intro M f σ outs hM hA hx hsub
    refine en_inner hop hcong hsh hM (fun fuel L a w env h hall => ?_) (fun fuel L a w env i o h ho hip hm => by rw [allM_ok.1 hA i hip] at hm; cases hm)
    have hcnt : ops.size - p ≤ unlisted L ops.size := by
      have key : ∀ n, n ≤ ops.size → n - p ≤ unlisted L n := by
        intro n
        induction n with
        | zero => intro _; omega
        | succ n ihn =>
          intro hn
          have := ihn (by omega)
          simp only [unlisted]
          by_cases hpn : p ≤ n
          · have hf := h.tail n hpn
            rw [getD_both (by have := h.size; omega)] at hf
            rw [hf]
            simp; omega
          · omega
      exact key _ (Nat.le_refl _)
    refine seq_any hsh fuel p L a w h.size (by have := h.fuel; omega) (Nat.le_refl _) hsh.le (fun i hi => ?_) ?_
    · by_cases hip : i < p
      · rw [hall i hip]; simp [hip]
      · rw [h.tail i (by omega)]; simp [hip]
    · have hrow : fillS ops f st0 (fun j => L.getD j false) p = fillS ops f st0 (fun j => memN j M) p := fillS_congr p fun j hj => by rw [hall j hj, allM_ok.1 hA j hj]
      refine xOpsK_ok hop hcall _ _ σ kk outs hx env a w h.ones h.rel (by rw [← hrow]; exact h.frel) Q ?_
      intro st'' σ'' outs' hk hsub' env'' a'' w'' hle'' hr'' hf''
      exact hq st'' σ'' outs' hk (fun x hx => hsub x (hsub' x hx)) env'' a'' w'' (h.le.trans' hle'') hr'' hf''
  intro n
  induction n with
  | zero =>
    intro M f σ outs hM h hsub
    unfold enRun at h
    split at h
    · rename_i hA; exact htail M f σ outs hM hA h hsub
    · cases h
  | succ n ih =>
    intro M f σ outs hM h hsub
    unfold enRun at h
    split at h
    · rename_i hA; exact htail M f σ outs hM hA h hsub
    · rename_i hA
      have htake : ∀ i o, (ops.toList.take p)[i]? = some o → i < p ∧ ops[i]? = some o := fun i o hi => by
        rw [List.getElem?_take] at hi
        split at hi
        · rename_i hip; exact ⟨hip, by rw [← Array.getElem?_toList]; exact hi⟩
        · cases hi
      have hrow : ∀ i o v, ops[i]? = some o → i < p → memN i M = false → fillS ops (updF f i v) st0 (fun j => memN j (i :: M)) p = putS (fillS ops f st0 (fun j => memN j M) p) o.dst v := fun i o v ho hip hm => by
        rw [← fill_more hsh ho hip hm (v := v)]
        exact fillS_congr p fun j _ => memN_cons
      split at h
      · rename_i i o v hc
        obtain ⟨_, h2, h3, h4⟩ := enCalm_ok hstill hpure _ _ _ _ _ hc
        obtain ⟨hip, ho⟩ := htake _ _ h2
        rw [Nat.sub_zero] at hip ho
        obtain ⟨hm, hn⟩ := freeM_ok.1 h3
        rw [← hrow i o v ho hip hm] at h
        intro fuel L a w env hI
        refine ih (i :: M) (updF f i v) σ outs (hM.more ho hip hn) h hsub fuel L a w env ⟨hI.size, hI.fuel, hI.tail, fun q hq' => by rw [memN_cons, hI.sub q hq']; rfl, fun q oq hoq hq' hlq => ?_, hI.closed, hI.ones, hI.le, hI.rel, ?_⟩
        · cases hqm : memN q M with
          | true => exact calm_more hcong hsh hM ho hip hm v hoq hqm (hI.calm q oq hoq hqm hlq)
          | false =>
            have hqi : q = i := by
              rw [memN_cons, hqm, Bool.false_or] at hq'; simpa using hq'
            subst hqi
            rw [ho] at hoq; cases hoq
            have hv : updF f q v q = v := by unfold updF; rw [if_pos rfl]
            rw [hv]
            refine h4.cong hcong fun t ht => ?_
            rw [fillS_congrf (f := updF f q v) (f' := updF f q v) p (fun _ _ _ => rfl)]
            have e1 := look_same (f := updF f q v) (st0 := st0) hsh ho hip (m := fun j => memN j M) (m' := fun j => memN j (q :: M)) hn (fun d hd => by show memN d (q :: M) = true; rw [memN_cons, hn d hd]; rfl) t ht
            rw [← e1]
            rw [fillS_congrf (f := updF f q v) (f' := f) p (fun j _ hj => by unfold updF; rw [if_neg]; intro e; subst e; rw [hm] at hj; cases hj)]
        · rw [fillS_congrf (f := updF f i v) (f' := f) p (fun j _ hj => by
            unfold updF; rw [if_neg]; intro e; subst e
            have := hI.sub j hj
            rw [hm] at this; cases this)]
          exact hI.frel
      · refine en_inner hop hcong hsh hM (fun fuel L a w env hI hall => ?_) (fun fuel L a w env i o hI ho hip hm hfal hneed => ?_)
        · exact absurd (allM_ok.2 fun j hj => hI.sub j (hall j hj)) (by rw [hA]; simp)
        · have hfree : freeM M o i = true := freeM_ok.2 ⟨hm, fun d hd => hI.sub d (hneed d hd)⟩
          have hget : (ops.toList.take p)[i - 0]? = some o := by
            rw [Nat.sub_zero, List.getElem?_take, if_pos hip, Array.getElem?_toList]; exact ho
          obtain ⟨hw, hres⟩ := enBr_ok _ _ _ h i o (Nat.zero_le _) hget hfree
          have hlook := look_same (f := f) (st0 := st0) hsh ho hip (m := fun j => memN j M) (m' := fun j => L.getD j false) (fun d hd => hI.sub d (hneed d hd)) hneed
          have hLs := hI.size
          have hlt : i < ops.size := (Array.getElem?_eq_some_iff.1 ho).1
          have h0 : L.getD i true = false := by rw [← getD_both (by omega)]; exact hfal
          have hneed2 : ∀ e ∈ o.after, Region.binds .any e = true → L.getD e.on false = true := fun e he hb => hneed e.on (mem_needs.2 ⟨e, he, hb, rfl⟩)
          have next : ∀ (s : SV) (σ' : SH) (outs' : Outs), enRun still pure_ op call ops p kk n (i :: M) (putS (fillS ops f st0 (fun j => memN j M) p) o.dst s) σ' = some outs' → (∀ x ∈ outs', x ∈ outs) →
              ∀ (env' : Env) (v : Value) (w' : World), env.le env' → Rel P w0 env' σ' w' → den env' s = some v → wpAny P .any ops Q fuel (L.setIfInBounds i true) (a.put o.dst v) w' := by
            intro s σ' outs' hrec hsub' env' v w' hle hr hd
            rw [← hrow i o s ho hip hm] at hrec
            have hsi : updF f i s i = s := by unfold updF; rw [if_pos rfl]
            refine ih (i :: M) (updF f i s) σ' outs' (hM.more ho hip fun d hd => hI.sub d (hneed d hd)) hrec (fun x hx => hsub x (hsub' x hx)) fuel _ _ w' env' ⟨by simp [hLs], ?_, fun q hq' => ?_, fun q hq' => ?_, fun q oq hoq hq' hlq => ?_, hI.closed.set ho hneed2 (by omega), hI.ones.le hle, hI.le.trans' hle, hr, ?_⟩
            · have := (unlisted_set h0 ops.size).2 hlt; have := hI.fuel; omega
            · rw [setL (by omega), hI.tail q hq']
              have : (q == i) = false := by simp; omega
              rw [this]; rfl
            · rw [setL (by omega), Bool.or_eq_true] at hq'
              rw [memN_cons]
              rcases hq' with hq' | hq'
              · rw [hI.sub q hq']; rfl
              · rw [hq']; simp
            · rw [setL (by omega), Bool.or_eq_false_iff] at hlq
              have hqm : memN q M = true := by
                rw [memN_cons, hlq.2, Bool.or_false] at hq'; exact hq'
              exact calm_more hcong hsh hM ho hip hm s hoq hqm (hI.calm q oq hoq hqm hlq.1)
            · have e : fillS ops (updF f i s) st0 (fun j => (L.setIfInBounds i true).getD j false) p = putS (fillS ops f st0 (fun j => L.getD j false) p) o.dst s := by
                rw [← fill_more hsh ho hip hfal (v := s)]
                exact fillS_congr p fun q _ => setL (by omega) q
              rw [e]
              exact putS_ok (hI.frel.mono hle) hd
          unfold wpOp
          simp only [ho]
          rw [wantS_cong hlook] at hw
          rw [wantS_ok hw hI.frel]
          simp only [if_true]
          left
          rcases hres with ⟨s, σ', outs', ho1, hrec, hs⟩ | ⟨g, args, σ1, l, ho1, hcl, hall⟩
          · rw [hcong ops _ _ o _ hlook] at ho1
            obtain ⟨env', v, w', hrun, hle', hrel, hd⟩ := hop _ o _ _ env a w ho1 hI.ones hI.rel hI.frel
            rcases hrun with hrun | ⟨hrun, rfl⟩
            · simp only [Oper.wp, hrun, Oper.upon]; exact next s σ' outs' hrec hs env' v w' hle' hrel hd
            · simp only [Oper.wp, hrun, Oper.upon]; exact next s σ' outs' hrec hs env' _ w' hle' hrel hd
          · rw [hcong ops _ _ o _ hlook] at ho1
            obtain ⟨vs, w', hrun, hrel, hd⟩ := hop _ o _ _ env a w ho1 hI.ones hI.rel hI.frel
            simp only [Oper.wp, hrun, Oper.upon]
            refine Calls.mono (hcall g args σ1 _ env w' vs hcl hI.ones hrel hd) ?_
            rintro e w'' ⟨x, hx, env', v, rfl, hle', hrel', hdv⟩
            obtain ⟨outs', hrec, hs⟩ := hall x hx
            exact next x.1 x.2 outs' hrec hs env' v w'' hle' hrel' hdv
end

/-- A region by all its orders. -/
noncomputable def regEnum (still pure_ : Op → Bool) (op : OpF) (call : CallF) (ops : Array Oper) (p : Nat) (st : Row) (σ : SH) (k : KS) : Option Outs :=
  @Bool.rec (fun _ => Option Outs) none (enRun still pure_ op call ops p k p [] st σ) (Nat.ble p 40)
noncomputable def regFirstE (P : Program) (still pure_ : Op → Bool) (op : OpF) (call : CallF) (ops : Array Oper) (p : Nat) (c : Nat) (st : Row) (σ : SH) (k : KS) : Option Outs :=
  match regPlan P still pure_ op call ops p (Nat.ble 2 c) st σ with
    | some (st', σ', us') => regTail P op call ops p us' st' σ' k
    | none => @Bool.rec (fun _ => Option Outs) (regEnum still pure_ op call ops p st σ k) (match regPlan P still pure_ op call ops p true st σ with
      | some (st', σ', us') => regTail P op call ops p us' st' σ' k
      | none => regEnum still pure_ op call ops p st σ k) (Nat.beq c 1)
theorem regFirstE_or {still pure_ : Op → Bool} {op : OpF} {call : CallF} {ops : Array Oper} {p c : Nat} {st : Row} {σ : SH} {k : KS} {outs : Outs} (h : regFirstE P still pure_ op call ops p c st σ k = some outs) :
    regFirst P still pure_ op call ops p c st σ k = some outs ∨ regEnum still pure_ op call ops p st σ k = some outs := by
  unfold regFirstE at h
  unfold regFirst
  generalize regPlan P still pure_ op call ops p (Nat.ble 2 c) st σ = x at h ⊢
  generalize regPlan P still pure_ op call ops p true st σ = y at h ⊢
  cases x with
  | some x => exact .inl h
  | none =>
    cases hc : Nat.beq c 1 with
    | false => rw [hc] at h; exact .inr h
    | true =>
      rw [hc] at h
      cases y with
      | some y => exact .inl h
      | none => exact .inr h
noncomputable def regDrawE (P : Program) (still pure_ : Op → Bool) (op : OpF) (call : CallF) : RegF := fun ops st σ k =>
  @Bool.rec (fun _ => Option Outs) none (regFirstE P still pure_ op call ops (splitOf ops) (candN ops (splitOf ops)) st σ k) (shapeOk ops (splitOf ops))
theorem regDrawE_ok {still pure_ : Op → Bool} {op : OpF} {call : CallF} (hm : P.follows .mixedOrders = true) (hop : ∀ b, OpSound P b op) (hcong : OpCong op) (hstill : ∀ st o σ s σ', still o.op = true → op st o σ = some (.val s σ') → σ' = σ)
    (hpure : ∀ st o σ s σ' σ1, pure_ o.op = true → op st o σ = some (.val s σ') → ∃ σ2, op st o σ1 = some (.val s σ2)) (hcall : ∀ b, CallSound P b call) :
    RegSound P w0 (regDrawE P still pure_ op call) := by
  intro ops st σ k outs h env a w ho hr hfr id Q hq
  cases htext : shapeOk ops (splitOf ops) with
  | false => unfold regDrawE at h; rw [htext] at h; exact absurd (show (none : Option Outs) = some outs from h) (by simp)
  | true =>
    have h : regFirstE P still pure_ op call ops (splitOf ops) (candN ops (splitOf ops)) st σ k = some outs := by
      unfold regDrawE at h; rw [htext] at h; exact h
    rcases regFirstE_or h with h | h
    · have h' : regDraw P still pure_ op call ops st σ k = some outs := by
        unfold regDraw; rw [htext]; exact h
      exact regDraw_ok hm hop hcong hstill hpure hcall ops st σ k outs h' env a w ho hr hfr id Q hq
    · have hsh := shapeOk_ok htext
      unfold regEnum at h
      cases hb : Nat.ble (splitOf ops) 40 with
      | false => rw [hb] at h; exact absurd (show (none : Option Outs) = some outs from h) (by simp)
      | true =>
        rw [hb] at h
        have h : enRun still pure_ op call ops (splitOf ops) k (splitOf ops) [] st σ = some outs := h
        refine wp_region_any hm ?_
        have hrep : ∀ i, (Array.replicate ops.size false).getD i false = false := fun i => by
          simp only [Array.getD_eq_getD_getElem?, Array.getElem?_replicate]; split <;> rfl
        have hnil : ∀ (m : Nat → Bool), (∀ j, m j = false) → ∀ q, fillS ops (fun _ => SV.undef) st m q = st := by
          intro m hm q
          induction q with
          | zero => rfl
          | succ q ih => simp only [fillS, hm, Bool.false_eq_true, if_false]; exact ih
        refine en_ok (P := P) (w0 := w0) (env0 := env) (st0 := st) (hop w0) hcong hstill hpure (hcall w0) hsh (outsA := outs) (kk := k) (fun st' σ' outs' hk hsub env' a' w' hle hr' hf' => hq st' σ' outs' hk hsub env' a' w' hle hr' hf')
          (splitOf ops) [] (fun _ => .undef) σ outs (fun j hj => by cases hj) (by rw [hnil (fun j => memN j []) (fun j => rfl)]; exact h) (fun _ hx => hx) ops.size (Array.replicate ops.size false) a w.drew env
          ⟨by simp, unlisted_none _, fun i _ => hrep i, fun i hi => (by rw [hrep] at hi; cases hi), fun i o _ hi => (by cases hi), fun i o _ hl => (by rw [hrep] at hl; cases hl), ho, Env.le_refl _, hr.drew, by rw [hnil _ hrep]; exact hfr⟩
end Go.Proofs.YtdkindollljlnabGreatDoor

namespace Go.Proofs.YtdkindollljlnabGreatDoor
open Go Go.RowKit
variable [Known]

variable {P : Program} {w0 : Base}

/-- The executor. -/
noncomputable def exec (P : Program) (summ : CallF) (d : Nat) : CallF := xCall P (opF P) summ (fun call => regDrawE P (stillOp P) pureOp (opF P) call) d
theorem exec_ok (hm : P.follows .mixedOrders = true) {summ : CallF} (hsumm : ∀ b, CallSound P b summ) (d : Nat) (b : Base) : CallSound P b (exec P summ d) :=
  by
  unfold exec
  rw [opF_eq]
  exact xCall_ok (fun _ => sOpN_ok) hsumm (fun _ hc _ => regDrawE_ok hm (fun _ => sOpN_ok) sOpN_cong sOpN_still sOpN_pure hc) d b
def noSumm : CallF := fun _ _ _ => none
theorem noSumm_ok : CallSound P w0 noSumm := fun f args σ outs env w vs h => by cases h

def sh0 : SH := ⟨0, .leaf⟩
def env0 (given : Nat → Value) : Env := ⟨fun _ => none, 0, given⟩
/-- All that lies in a world stays as it is. -/
def baseOf (w : World) : Base := ⟨w, fun b => b < w.heap.size⟩
theorem Keeps.below {w w' : World} (h : Keeps (baseOf w) w') : Below w.heap.size w w' := ⟨h.os, h.tape, h.output, h.size, fun k hk => (h.block k hk).2⟩
theorem MaxLenIs.lt {w : World} (h : MaxLenIs P w) {g : Nat} (hg : P.globals.findIdx? (·.name == "internal/bytealg.MaxLen") = some g) : g < w.heap.size := by
  obtain ⟨m, hm⟩ := h g hg
  unfold World.cell? at hm
  simp only at hm
  cases hb : w.heap[g]? with
  | none => rw [hb] at hm; cases hm
  | some o => exact (Array.getElem?_eq_some_iff.1 hb).1
theorem rel0 (given : Nat → Value) (w : World) (hml : MaxLenIs P w) (hk : Known.ok w (fun b => b < w.heap.size) given := by exact trivial) : Rel P (baseOf w) (env0 given) sh0 w := by
  refine ⟨⟨hml, fun g hg => hml.lt hg, hk⟩, ⟨rfl, rfl, rfl, Nat.le_refl _, fun k hk => ⟨hk, rfl⟩⟩, rfl, fun _ _ => rfl, fun n o h => ?_, fun n m o o' x y _ h => ?_⟩ <;>
  · have := (SH.get_lt h).2
    simp only [sh0, Tr.get_leaf] at this
    cases this
/-- A closed call. -/
theorem exec_closed (hm : P.follows .mixedOrders = true) {summ : CallF} (hsumm : ∀ b, CallSound P b summ) {d : Nat} {f : FuncId} {args : List SV} {outs : Outs} (h : exec P summ d f args sh0 = some outs) {given : Nat → Value} (ho : (env0 given).ones) {vs : List Value} (ha : denL (env0 given) args = some vs) (w : World) (hml : MaxLenIs P w) (hk : Known.ok w (fun b => b < w.heap.size) given := by exact trivial) :
    Calls P f vs.toArray w fun e w' => ∃ o ∈ outs, ∃ env' v, e = .returned v ∧ Below w.heap.size w w' ∧ den env' o.1 = some v :=
  (exec_ok hm hsumm d (baseOf w) f args sh0 outs (env0 given) w vs h ho (rel0 given w hml hk) ha).mono fun e w' ⟨o, hmem, env', v, he, _, hr, hd⟩ => ⟨o, hmem, env', v, he, hr.below.below, hd⟩
end Go.Proofs.YtdkindollljlnabGreatDoor

namespace Go.Proofs.YtdkindollljlnabGreatDoor
open Go Go.RowKit
variable [Known]

variable {P : Program}

/-- One end, of this value. -/
noncomputable def isV (v : SV) (r : Option Outs) : Bool := match r with
  | some [(x, _)] => eqS x v
  | _ => false
theorem isV_ok {v : SV} {r : Option Outs} (h : isV v r = true) : ∃ σ, r = some [(v, σ)] := by
  unfold isV at h
  split at h
  · rename_i x σ
    exact ⟨σ, by rw [eqS_ok _ _ h]⟩
  · cases h

theorem exec_val (hm : P.follows .mixedOrders = true) {summ : CallF} (hsumm : ∀ b, CallSound P b summ) {d : Nat} {f : FuncId} {args : List SV} {v : SV} (h : isV v (exec P summ d f args sh0) = true) {given : Nat → Value} (ho : (env0 given).ones) {vs : List Value} (ha : denL (env0 given) args = some vs)
    {u : Value} (hu : ∀ env, den env v = some u) (w : World) (hml : MaxLenIs P w) (hk : Known.ok w (fun b => b < w.heap.size) given := by exact trivial) : Calls P f vs.toArray w fun e w' => e = .returned u ∧ Below w.heap.size w w' := by
  obtain ⟨σ, hσ⟩ := isV_ok h
  refine (exec_closed hm hsumm hσ ho ha w hml hk).mono ?_
  rintro e w' ⟨o, hmem, env', x, rfl, hb, hd⟩
  rw [List.mem_singleton.1 hmem] at hd
  rw [hu] at hd; cases hd
  exact ⟨rfl, hb⟩

/-- A world of which one block is known. -/
def baseAt (w : World) (b : Nat) : Base := ⟨w, fun k => k < w.heap.size ∧ k ≠ b⟩
theorem okayAt {w : World} {b : Nat} {gv : Nat → Value} (hml : MaxLenIs P w) (hb : ∀ g, P.globals.findIdx? (·.name == "internal/bytealg.MaxLen") = some g → g ≠ b) (hk : Known.ok w (fun k => k < w.heap.size ∧ k ≠ b) gv := by exact trivial) : Okay P (baseAt w b) gv := ⟨hml, fun g hg => ⟨hml.lt hg, hb g hg⟩, hk⟩
theorem rel1 (given : Nat → Value) (w : World) {b : Nat} (hok : Okay P (baseAt w b) given) {l : List SV} {vs : List Value} {e : TypeId} (hl : denL ((env0 given).push 0 b 0) l = some vs) (hb : w.heap[b]? = some (.cells vs.toArray e (0, 0))) :
    Rel P (baseAt w b) ((env0 given).push 0 b 0) (sh0.push (.cells l e true)) w := by
  have hget : ∀ n o, (sh0.push (.cells l e true)).get n = some o → n = 0 ∧ o = .cells l e true := fun n o h => by
    rcases SH.get_push h with ⟨h1, h2⟩ | ⟨_, h⟩
    · exact ⟨h1, h2⟩
    · have := (SH.get_lt h).2
      simp only [sh0, Tr.get_leaf] at this
      cases this
  refine ⟨hok, ⟨rfl, rfl, rfl, Nat.le_refl _, fun k hk => ⟨hk.1, rfl⟩⟩, rfl, fun n hn => ?_, fun n o h => ?_, fun n m o o' x y hne h h' => ?_⟩
  · have hn : 0 + 1 ≤ n := hn
    rw [Env.push_ne _ _ _ (by omega)]; rfl
  · obtain ⟨rfl, rfl⟩ := hget n o h
    refine ⟨b, 0, Env.new _ _ _ _, fun hk => hk.2 rfl, vs.toArray, e, (0, 0), vs, hb, thawed_zero _, hl, ?_, fun _ => ⟨by simpa using denL_length hl, rfl⟩, fun hx => by cases hx⟩
    rw [← denL_length hl]; simp
  · exact absurd ((hget n o h).1.trans (hget m o' h').1.symm) hne

theorem exec_at (hm : P.follows .mixedOrders = true) {summ : CallF} (hsumm : ∀ b, CallSound P b summ) {d : Nat} {f : FuncId} {args : List SV} {v : SV} {l : List SV} {e : TypeId} (h : isV v (exec P summ d f args (sh0.push (.cells l e true))) = true) {given : Nat → Value} (ho : (env0 given).ones) {b : Nat} {vs us : List Value}
    (ha : denL ((env0 given).push 0 b 0) args = some vs) (hl : denL ((env0 given).push 0 b 0) l = some us) (w : World) (hok : Okay P (baseAt w b) given) (hb : w.heap[b]? = some (.cells us.toArray e (0, 0))) {u : Value} (hu : ∀ env, den env v = some u) :
    Calls P f vs.toArray w fun e w' => e = .returned u ∧ ∀ n, n ≤ b → n ≤ w.heap.size → Below n w w' := by
  obtain ⟨σ, hσ⟩ := isV_ok h
  refine (exec_ok hm hsumm d (baseAt w b) f args _ _ ((env0 given).push 0 b 0) w vs hσ (fun i => ho i) (rel1 given w hok hl hb) ha).mono ?_
  rintro e w' ⟨o, hmem, env', x, rfl, hle, hr, hd⟩
  rw [List.mem_singleton.1 hmem] at hd
  rw [hu] at hd; cases hd
  refine ⟨rfl, fun n hn hnw => ⟨hr.below.os, hr.below.tape, hr.below.output, hr.below.size, fun k hk => ?_⟩⟩
  exact (hr.below.block k ⟨by show k < w.heap.size; omega, by omega⟩).2
end Go.Proofs.YtdkindollljlnabGreatDoor

namespace Go.Proofs.YtdkindollljlnabGreatDoor
open Go Go.RowKit
variable [Known]

/-- A summary of one function, ahead of others. -/
noncomputable def onF (k : Nat) (o : List SV → SH → Option Outs) (rest : CallF) : CallF := fun f args σ => @Bool.rec (fun _ => Option Outs) (rest f args σ) (o args σ) (Nat.beq f k)
theorem onF_ok {P : Program} {b : Base} {k : Nat} {o : List SV → SH → Option Outs} {rest : CallF} (ho : ∀ args σ outs env w vs, o args σ = some outs → env.ones → Rel P b env σ w → denL env args = some vs → Calls P k vs.toArray w (Comes1 P b env outs)) (hr : CallSound P b rest) : CallSound P b (onF k o rest) := by
  intro f args σ outs env w vs h hones hrel ha
  unfold onF at h
  cases hf : Nat.beq f k with
  | true =>
    rw [hf] at h
    obtain rfl := Nat.eq_of_beq_eq_true hf
    exact ho args σ outs env w vs h hones hrel ha
  | false =>
    rw [hf] at h
    exact hr f args σ outs env w vs h hones hrel ha
/-- One summary, and where it has nothing to say another one. -/
noncomputable def orO (o1 o2 : List SV → SH → Option Outs) (args : List SV) (σ : SH) : Option Outs := @Option.rec Outs (fun _ => Option Outs) (o2 args σ) (fun x => some x) (o1 args σ)
theorem orO_or {o1 o2 : List SV → SH → Option Outs} {args : List SV} {σ : SH} {x : Outs} (h : orO o1 o2 args σ = some x) : o1 args σ = some x ∨ o2 args σ = some x := by
  unfold orO at h
  cases h1 : o1 args σ with
  | none => rw [h1] at h; exact .inr h
  | some y => rw [h1] at h; exact .inl h
/-- All ends, each of this value. -/
noncomputable def allV (v : SV) (r : Option Outs) : Bool := match r with
  | some l => @List.rec (SV × SH) (fun _ => Bool) true (fun x _ ih => @Bool.rec (fun _ => Bool) false ih (eqS x.1 v)) l
  | none => false
theorem allV_ok {v : SV} {r : Option Outs} (h : allV v r = true) : ∃ l, r = some l ∧ ∀ o ∈ l, o.1 = v := by
  unfold allV at h
  split at h
  · rename_i l
    refine ⟨l, rfl, ?_⟩
    induction l with
    | nil => intro o ho; cases ho
    | cons x t ih =>
      have h : @Bool.rec (fun _ => Bool) false (@List.rec (SV × SH) (fun _ => Bool) true (fun x _ ih => @Bool.rec (fun _ => Bool) false ih (eqS x.1 v)) t) (eqS x.1 v) = true := h
      cases hx : eqS x.1 v with
      | false => rw [hx] at h; cases h
      | true =>
        rw [hx] at h
        intro o ho
        rcases List.mem_cons.1 ho with rfl | ho
        · exact eqS_ok _ _ hx
        · exact ih h o ho
  · cases h
theorem exec_all {P : Program} (hm : P.follows .mixedOrders = true) {summ : CallF} (hsumm : ∀ b, CallSound P b summ) {d : Nat} {f : FuncId} {args : List SV} {v : SV} (h : allV v (exec P summ d f args sh0) = true) {given : Nat → Value} (ho : (env0 given).ones) {vs : List Value} (ha : denL (env0 given) args = some vs)
    {u : Value} (hu : ∀ env, den env v = some u) (w : World) (hml : MaxLenIs P w) (hk : Known.ok w (fun b => b < w.heap.size) given := by exact trivial) : Calls P f vs.toArray w fun e w' => e = .returned u ∧ Below w.heap.size w w' := by
  obtain ⟨l, hl, hall⟩ := allV_ok h
  refine (exec_closed hm hsumm hl ho ha w hml hk).mono ?_
  rintro e w' ⟨o, hmem, env', x, rfl, hb, hd⟩
  rw [hall o hmem, hu] at hd; cases hd
  exact ⟨rfl, hb⟩
/-- A call without arguments that answers true, as a summary. -/
noncomputable def trueOut (args : List SV) (σ : SH) : Option Outs := match args with
  | [] => some [(.bool true, σ)]
  | _ => none
theorem trueOut_ok {P : Program} {k : FuncId} (hc : ∀ w, MaxLenIs P w → Calls P k #[] w fun e w' => e = .returned (.bool true) ∧ Below w.heap.size w w') (b : Base) {args : List SV} {σ : SH} {outs : Outs} {env : Env} {w : World} {vs : List Value} (h : trueOut args σ = some outs) (hr : Rel P b env σ w) (ha : denL env args = some vs) :
    Calls P k vs.toArray w (Comes1 P b env outs) := by
  unfold trueOut at h
  split at h
  · cases h
    simp only [denL] at ha; cases ha
    refine (hc w hr.maxLen).mono ?_
    rintro e w' ⟨rfl, hb⟩
    exact ⟨_, List.mem_singleton.2 rfl, env, _, rfl, Env.le_refl _, hr.world hb, rfl⟩
  · cases h
end Go.Proofs.YtdkindollljlnabGreatDoor

namespace Go.Proofs.YtdkindollljlnabGreatDoor
open Go Go.RowKit
variable [Known]

variable {P : Program}

def eqPL : List (SV × SV) → List (SV × SV) → Bool
  | [], [] => true
  | a :: r, b :: s => eqS a.1 b.1 && eqS a.2 b.2 && eqPL r s
  | _, _ => false
theorem eqPL_ok : ∀ (a b : List (SV × SV)), eqPL a b = true → a = b
  | [], [], _ => rfl
  | (x, y) :: r, (x', y') :: s, h => by
    simp only [eqPL, Bool.and_eq_true] at h
    rw [eqS_ok _ _ h.1.1, eqS_ok _ _ h.1.2, eqPL_ok r s h.2]
  | [], _ :: _, h => by simp [eqPL] at h
  | _ :: _, [], h => by simp [eqPL] at h
def eqLL : List SV → List SV → Bool
  | [], [] => true
  | a :: r, b :: s => eqS a b && eqLL r s
  | _, _ => false
theorem eqLL_ok : ∀ (a b : List SV), eqLL a b = true → a = b
  | [], [], _ => rfl
  | x :: r, x' :: s, h => by
    simp only [eqLL, Bool.and_eq_true] at h
    rw [eqS_ok _ _ h.1, eqLL_ok r s h.2]
  | [], _ :: _, h => by simp [eqLL] at h
  | _ :: _, [], h => by simp [eqLL] at h
def eqSO : SO → SO → Bool
  | .cells l e x, .cells l' e' x' => eqLL l l' && decide (e = e') && (x == x')
  | .map es, .map es' => eqPL es es'
  | .siter l p, .siter l' p' => decide (l = l') && decide (p = p')
  | .miter m a s b, .miter m' a' s' b' => eqS m m' && decide (a = a') && decide (s = s') && decide (b = b')
  | .dmap es, .dmap es' => eqPL es es'
  | _, _ => false
theorem eqSO_ok (a b : SO) (h : eqSO a b = true) : a = b := by
  cases a <;> cases b <;> simp only [eqSO, Bool.and_eq_true, decide_eq_true_eq, beq_iff_eq, Bool.false_eq_true] at h
  · rw [eqLL_ok _ _ h.1.1, h.1.2, h.2]
  · rw [eqPL_ok _ _ h]
  · rw [h.1, h.2]
  · rw [eqS_ok _ _ h.1.1.1, h.1.1.2, h.1.2, h.2]
  · rw [eqPL_ok _ _ h]
def eqOO : Option SO → Option SO → Bool
  | none, none => true
  | some a, some b => eqSO a b
  | _, _ => false
theorem eqOO_ok (a b : Option SO) (h : eqOO a b = true) : a = b := by
  cases a <;> cases b <;> simp only [eqOO, Bool.false_eq_true] at h
  · rfl
  · rw [eqSO_ok _ _ h]
def eqTr : Tr SO → Tr SO → Bool
  | .leaf, .leaf => true
  | .node v l r, .node v' l' r' => eqOO v v' && (eqTr l l' && eqTr r r')
  | _, _ => false
theorem eqTr_ok : ∀ (a b : Tr SO), eqTr a b = true → a = b
  | .leaf, .leaf, _ => rfl
  | .node v l r, .node v' l' r', h => by
    simp only [eqTr, Bool.and_eq_true] at h
    rw [eqOO_ok _ _ h.1, eqTr_ok _ _ h.2.1, eqTr_ok _ _ h.2.2]
  | .leaf, .node _ _ _, h => by simp [eqTr] at h
  | .node _ _ _, .leaf, h => by simp [eqTr] at h
def eqSH (σ σ' : SH) : Bool := Nat.beq σ.next σ'.next && eqTr σ.tr σ'.tr
theorem eqSH_ok (σ σ' : SH) (h : eqSH σ σ' = true) : σ = σ' := by
  unfold eqSH at h
  simp only [Bool.and_eq_true] at h
  cases σ; cases σ'
  have h1 := Nat.eq_of_beq_eq_true h.1
  have h2 := eqTr_ok _ _ h.2
  simp only at h1 h2
  rw [h1, h2]
def eqOs : Outs → Outs → Bool
  | [], [] => true
  | a :: r, b :: s => eqS a.1 b.1 && (eqSH a.2 b.2 && eqOs r s)
  | _, _ => false
theorem eqOs_ok : ∀ (a b : Outs), eqOs a b = true → a = b
  | [], [], _ => rfl
  | (x, σ) :: r, (x', σ') :: s, h => by
    simp only [eqOs, Bool.and_eq_true] at h
    rw [eqS_ok _ _ h.1, eqSH_ok _ _ h.2.1, eqOs_ok r s h.2.2]
  | [], _ :: _, h => by simp [eqOs] at h
  | _ :: _, [], h => by simp [eqOs] at h
/-- These ends, and no other. -/
def isOs (outs : Outs) (r : Option Outs) : Bool := match r with
  | some o => eqOs o outs
  | none => false
theorem isOs_ok {outs : Outs} {r : Option Outs} (h : isOs outs r = true) : r = some outs := by
  unfold isOs at h
  split at h
  · rw [eqOs_ok _ _ h]
  · cases h

/-- The one call, at the one heap; all else as ahead. -/
noncomputable def memoAt (f0 : FuncId) (A : List SV) (σ0 : SH) (outs : Outs) (rest : CallF) : CallF := fun f args σ =>
  @Bool.rec (fun _ => Option Outs) (rest f args σ) (@Bool.rec (fun _ => Option Outs) (rest f args σ) (@Bool.rec (fun _ => Option Outs) (rest f args σ) (some outs) (eqSH σ σ0)) (eqLL args A)) (Nat.beq f f0)
theorem memoAt_ok (hm : P.follows .mixedOrders = true) {summ : CallF} (hsumm : ∀ b, CallSound P b summ) {d : Nat} {f0 : FuncId} {A : List SV} {σ0 : SH} {outs : Outs} (h : isOs outs (exec P summ d f0 A σ0) = true) {rest : CallF} {b : Base} (hrest : CallSound P b rest) : CallSound P b (memoAt f0 A σ0 outs rest) := by
  intro f args σ outs' env w vs h' hones hrel ha
  unfold memoAt at h'
  cases h1 : Nat.beq f f0 with
  | false => rw [h1] at h'; exact hrest f args σ outs' env w vs h' hones hrel ha
  | true =>
    rw [h1] at h'
    cases h2 : eqLL args A with
    | false => rw [h2] at h'; exact hrest f args σ outs' env w vs h' hones hrel ha
    | true =>
      rw [h2] at h'
      cases h3 : eqSH σ σ0 with
      | false => rw [h3] at h'; exact hrest f args σ outs' env w vs h' hones hrel ha
      | true =>
        rw [h3] at h'
        have h' : some outs = some outs' := h'
        cases h'
        obtain rfl := Nat.eq_of_beq_eq_true h1
        obtain rfl := eqLL_ok _ _ h2
        obtain rfl := eqSH_ok _ _ h3
        exact exec_ok hm hsumm d b f args σ outs env w vs (isOs_ok h) hones hrel ha
end Go.Proofs.YtdkindollljlnabGreatDoor

namespace Go.Proofs.YtdkindollljlnabGreatDoor
open Go Go.RowKit

variable [Known]
variable {P : Program}

abbrev Blks := List (Nat × SO)
/-- A row of bytes. -/
noncomputable def u8s (l : List Nat) : List SV := mapR (fun n => SV.int .u8 (Int.ofNat n)) l
/-- A heap that holds at least these. -/
noncomputable def frIn (l : Blks) (σ : SH) : Bool := @List.rec (Nat × SO) (fun _ => Bool) true (fun x _ ih => @Bool.rec (fun _ => Bool) false ih (@Option.rec SO (fun _ => Bool) false (fun o => eqSO o x.2) (σ.get x.1))) l
theorem frIn_ok {σ : SH} : ∀ {l : Blks}, frIn l σ = true → ∀ n o, (n, o) ∈ l → σ.get n = some o := by
  intro l
  induction l with
  | nil => intro _ n o h; cases h
  | cons x r ih =>
    intro h n o hm
    have h : @Bool.rec (fun _ => Bool) false (frIn r σ) (@Option.rec SO (fun _ => Bool) false (fun o => eqSO o x.2) (σ.get x.1)) = true := h
    cases hg : σ.get x.1 with
    | none => rw [hg] at h; exact absurd (show false = true from h) (by simp)
    | some o' =>
      rw [hg] at h
      have h : @Bool.rec (fun _ => Bool) false (frIn r σ) (eqSO o' x.2) = true := h
      cases he : eqSO o' x.2 with
      | false => rw [he] at h; exact absurd (show false = true from h) (by simp)
      | true =>
        rw [he] at h
        rcases List.mem_cons.1 hm with rfl | hm
        · rw [hg, eqSO_ok _ _ he]
        · exact ih h n o hm
noncomputable def putAll (l : Blks) (σ : SH) : SH := @List.rec (Nat × SO) (fun _ => SH) σ (fun x _ ih => ih.put x.1 (some x.2)) l
theorem putAll_next (l : Blks) (σ : SH) : (putAll l σ).next = σ.next := by
  induction l with
  | nil => rfl
  | cons x r ih => exact ih
theorem putAll_get {σ : SH} : ∀ {l : Blks} {n : Nat} {o : SO}, (putAll l σ).get n = some o → (n, o) ∈ l ∨ (σ.get n = some o ∧ ∀ o', (n, o') ∉ l) := by
  intro l
  induction l with
  | nil => intro n o h; exact .inr ⟨h, fun _ h => by cases h⟩
  | cons x r ih =>
    intro n o h
    have h : ((putAll r σ).put x.1 (some x.2)).get n = some o := h
    rcases SH.get_put h with ⟨h1, h2⟩ | ⟨h1, h2⟩
    · left; cases h2; subst h1; exact List.mem_cons_self
    · rcases ih h2 with h3 | ⟨h3, h4⟩
      · exact .inl (List.mem_cons_of_mem _ h3)
      · refine .inr ⟨h3, fun o' ho' => ?_⟩
        rcases List.mem_cons.1 ho' with e | ho'
        · exact h1 (by rw [← e])
        · exact h4 o' ho'
noncomputable def delAll (l : Blks) (σ : SH) : SH := @List.rec (Nat × SO) (fun _ => SH) σ (fun x _ ih => ih.put x.1 none) l
theorem delAll_next (l : Blks) (σ : SH) : (delAll l σ).next = σ.next := by
  induction l with
  | nil => rfl
  | cons x r ih => exact ih
theorem delAll_get {σ : SH} : ∀ {l : Blks} {n : Nat} {o : SO}, (delAll l σ).get n = some o → σ.get n = some o ∧ ∀ o', (n, o') ∉ l := by
  intro l
  induction l with
  | nil => intro n o h; exact ⟨h, fun _ h => by cases h⟩
  | cons x r ih =>
    intro n o h
    have h : ((delAll r σ).put x.1 none).get n = some o := h
    rcases SH.get_put h with ⟨h1, h2⟩ | ⟨h1, h2⟩
    · cases h2
    · obtain ⟨h3, h4⟩ := ih h2
      refine ⟨h3, fun o' ho' => ?_⟩
      rcases List.mem_cons.1 ho' with e | ho'
      · exact h1 (by rw [← e])
      · exact h4 o' ho'
/-- The heap of such a run. -/
noncomputable def heapOf (N : Nat) (H : Blks) : SH := putAll H ⟨N, .leaf⟩
theorem heapOf_get {N : Nat} {H : Blks} {n : Nat} {o : SO} (h : (heapOf N H).get n = some o) : (n, o) ∈ H := by
  rcases putAll_get h with h | ⟨h, _⟩
  · exact h
  · have := (SH.get_lt h).2
    simp only [Tr.get_leaf] at this
    cases this
/-- One end: its value, its next name, its blocks. -/
structure End1 where
  v : SV
  nx : Nat
  O : Blks
noncomputable def over (H : Blks) (e : End1) (σ : SH) : SH := putAll e.O (delAll H ⟨e.nx, σ.tr⟩)
/-- The ends of a run are these. -/
noncomputable def endsChk : List End1 → Outs → Bool
  | [], [] => true
  | e :: r, o :: s => eqS o.1 e.v && (Nat.beq o.2.next e.nx && (frIn e.O o.2 && endsChk r s))
  | _, _ => false
noncomputable def frChk (E : List End1) (r : Option Outs) : Bool := @Option.rec Outs (fun _ => Bool) false (fun o => endsChk E o) r
theorem endsChk_ok : ∀ {E : List End1} {outs : Outs}, endsChk E outs = true → ∀ o ∈ outs, ∃ e ∈ E, o.1 = e.v ∧ o.2.next = e.nx ∧ ∀ n x, (n, x) ∈ e.O → o.2.get n = some x := by
  intro E
  induction E with
  | nil => intro outs h o ho; cases outs with
    | nil => cases ho
    | cons a r => simp [endsChk] at h
  | cons e r ih =>
    intro outs h o ho
    cases outs with
    | nil => cases ho
    | cons a s =>
      simp only [endsChk, Bool.and_eq_true] at h
      rcases List.mem_cons.1 ho with rfl | ho
      · exact ⟨e, List.mem_cons_self, eqS_ok _ _ h.1, Nat.eq_of_beq_eq_true h.2.1, frIn_ok h.2.2.1⟩
      · obtain ⟨e', he', h'⟩ := ih h.2.2.2 o ho
        exact ⟨e', List.mem_cons_of_mem _ he', h'⟩
/-- The one call, over these blocks; all else as ahead. -/
noncomputable def frMemo (f0 : FuncId) (A : List SV) (N : Nat) (H : Blks) (E : List End1) (rest : CallF) : CallF := fun f args σ =>
  @Bool.rec (fun _ => Option Outs) (rest f args σ) (@Bool.rec (fun _ => Option Outs) (rest f args σ) (@Bool.rec (fun _ => Option Outs) (rest f args σ) (@Bool.rec (fun _ => Option Outs) (rest f args σ) (some (E.map fun e => (e.v, over H e σ))) (frIn H σ)) (eqLL args A)) (Nat.beq σ.next N)) (Nat.beq f f0)
theorem frMemo_ok (hm : P.follows .mixedOrders = true) {summ : CallF} (hsumm : ∀ b, CallSound P b summ) {d : Nat} {f0 : FuncId} {A : List SV} {N : Nat} {H : Blks} {E : List End1} (hrun : frChk E (exec P summ d f0 A (heapOf N H)) = true)
    {rest : CallF} {w0 : Base} (hrest : CallSound P w0 rest) : CallSound P w0 (frMemo f0 A N H E rest) := by
  intro f args σ outs env w vs h ho hr ha
  unfold frMemo at h
  cases h1 : Nat.beq f f0 with
  | false => rw [h1] at h; exact hrest f args σ outs env w vs h ho hr ha
  | true =>
  rw [h1] at h
  cases h2 : Nat.beq σ.next N with
  | false => rw [h2] at h; exact hrest f args σ outs env w vs h ho hr ha
  | true =>
  rw [h2] at h
  cases h3 : eqLL args A with
  | false => rw [h3] at h; exact hrest f args σ outs env w vs h ho hr ha
  | true =>
  rw [h3] at h
  cases h4 : frIn H σ with
  | false => rw [h4] at h; exact hrest f args σ outs env w vs h ho hr ha
  | true =>
  rw [h4] at h
  replace h : some (E.map fun e => (e.v, over H e σ)) = some outs := h
  cases h
  obtain rfl := Nat.eq_of_beq_eq_true h1
  have hN := Nat.eq_of_beq_eq_true h2
  obtain rfl := eqLL_ok _ _ h3
  have hH := frIn_ok h4
  unfold frChk at hrun
  cases hx : exec P summ d f args (heapOf N H) with
  | none => rw [hx] at hrun; exact absurd (show false = true from hrun) (by simp)
  | some o0 =>
  rw [hx] at hrun
  have hends := endsChk_ok (show endsChk E o0 = true from hrun)
  -- what is kept: what was, and each block that the call does not have
  let keep1 : Nat → Prop := fun b => w0.keep b ∨ ∃ n o c, σ.get n = some o ∧ (∀ o', (n, o') ∉ H) ∧ env.blocks n = some (b, c)
  have hkeep : ∀ b, keep1 b → b < w.heap.size := fun b hb => by
    rcases hb with hb | ⟨n, o, c, hn, _, hb⟩
    · exact Nat.lt_of_lt_of_le (hr.below.block b hb).1 hr.below.size
    · obtain ⟨b', c', e1, _, e3⟩ := hr.obj n o hn
      rw [hb] at e1; cases e1
      exact e3.lt
  have hnext : (heapOf N H).next = σ.next := by unfold heapOf; rw [putAll_next]; exact hN.symm
  have rel1 : Rel P ⟨w, keep1⟩ env (heapOf N H) w := by
    refine ⟨⟨hr.maxLen, fun g hg => .inl (hr.okay.2.1 g hg), Known.mono _ _ _ _ _ (fun b hk => ⟨.inl hk, (hr.below.block b hk).2⟩) hr.okay.2.2⟩, ⟨rfl, rfl, rfl, Nat.le_refl _, fun k hk => ⟨hkeep k hk, rfl⟩⟩, hr.nx.trans hnext.symm, fun n hn => hr.fresh n (hnext ▸ hn), fun n o hg => ?_, fun n m o o' x y hne hg hg' hx hy => hr.apart n m o o' x y hne (hH n o (heapOf_get hg)) (hH m o' (heapOf_get hg')) hx hy⟩
    have hm' := heapOf_get hg
    obtain ⟨b, c, e1, e2, e3⟩ := hr.obj n o (hH n o hm')
    refine ⟨b, c, e1, fun hk => ?_, e3⟩
    rcases hk with hk | ⟨m, o', c', g1, g2, g3⟩
    · exact e2 hk
    · have hne : n ≠ m := fun e => g2 o (e ▸ hm')
      exact hr.apart n m o o' (b, c) (b, c') hne (hH n o hm') g1 e1 g3 rfl
  refine (exec_ok hm hsumm d ⟨w, keep1⟩ f args (heapOf N H) o0 env w vs hx ho rel1 ha).mono ?_
  rintro en w' ⟨o, hmem, env', u, rfl, hle, hr', hdu⟩
  obtain ⟨e, heE, hv, hnx, hO⟩ := hends o hmem
  refine ⟨(e.v, over H e σ), List.mem_map.2 ⟨e, heE, rfl⟩, env', u, rfl, hle, ?_, by rw [← hv]; exact hdu⟩
  have hon : (over H e σ).next = o.2.next := by
    unfold over; rw [putAll_next, delAll_next]; exact hnx.symm
  have hget : ∀ n x, (over H e σ).get n = some x → (n, x) ∈ e.O ∨ (σ.get n = some x ∧ ∀ o', (n, o') ∉ H) := fun n x hg => by
    rcases putAll_get hg with hg | ⟨hg, _⟩
    · exact .inl hg
    · obtain ⟨g1, g2⟩ := delAll_get hg
      exact .inr ⟨g1, g2⟩
  have old : ∀ n x, σ.get n = some x → (∀ o', (n, o') ∉ H) → ∃ b c, env'.blocks n = some (b, c) ∧ ¬ w0.keep b ∧ keep1 b ∧ ORel P env' w' b c x := fun n x g1 g2 => by
    obtain ⟨b, c, e1, e2, e3⟩ := hr.obj n x g1
    have hk : keep1 b := .inr ⟨n, x, c, g1, g2, e1⟩
    exact ⟨b, c, hle.some n _ e1, e2, hk, e3.mono hle (hr'.below.block b hk).2⟩
  refine ⟨by rw [hle.given]; exact hr.okay, ⟨hr'.below.os.trans hr.below.os, hr'.below.tape.trans hr.below.tape, hr'.below.output.trans hr.below.output, Nat.le_trans hr.below.size hr'.below.size, fun k hk => ?_⟩, hr'.nx.trans hon.symm, fun n hn => hr'.fresh n (hon ▸ hn), fun n x hg => ?_, fun n m x y b c hne hg hg' hb hc => ?_⟩
  · obtain ⟨q1, q2⟩ := hr.below.block k hk
    exact ⟨q1, (hr'.below.block k (.inl hk)).2.trans q2⟩
  · rcases hget n x hg with hg | ⟨g1, g2⟩
    · obtain ⟨b, c, e1, e2, e3⟩ := hr'.obj n x (hO n x hg)
      exact ⟨b, c, e1, fun hk => e2 (.inl hk), e3⟩
    · obtain ⟨b, c, e1, e2, _, e3⟩ := old n x g1 g2
      exact ⟨b, c, e1, e2, e3⟩
  · rcases hget n x hg with hg | ⟨g1, g2⟩
    · rcases hget m y hg' with hg' | ⟨g1', g2'⟩
      · exact hr'.apart n m x y b c hne (hO n x hg) (hO m y hg') hb hc
      · obtain ⟨bn, cn, e1, e2, _⟩ := hr'.obj n x (hO n x hg)
        obtain ⟨bm, cm, f1, _, f2, _⟩ := old m y g1' g2'
        rw [hb] at e1; rw [hc] at f1; cases e1; cases f1
        exact fun e => e2 (by show keep1 bn; have e : bn = bm := e; rw [e]; exact f2)
    · rcases hget m y hg' with hg' | ⟨g1', g2'⟩
      · obtain ⟨bm, cm, f1, f2, _⟩ := hr'.obj m y (hO m y hg')
        obtain ⟨bn, cn, e1, _, e2, _⟩ := old n x g1 g2
        rw [hb] at e1; rw [hc] at f1; cases e1; cases f1
        exact fun e => f2 (by show keep1 bm; have e : bn = bm := e; rw [← e]; exact e2)
      · obtain ⟨bn, cn, p1, _⟩ := hr.obj n x g1
        obtain ⟨bm, cm, q1, _⟩ := hr.obj m y g1'
        have e1 := hle.some n _ p1
        have e2 := hle.some m _ q1
        rw [hb] at e1; rw [hc] at e2; cases e1; cases e2
        exact hr.apart n m x y _ _ hne g1 g1' p1 q1
end Go.Proofs.YtdkindollljlnabGreatDoor

namespace Go.Proofs.YtdkindollljlnabGreatDoor
open Go Go.RowKit Go.Shelf

attribute [local go_sem] Oper.semAt_some

section
variable {F : Fence} {n : Nat} {P : Program} {ops : Array Oper} {Q : Exit → Act → World → Prop} {o : Oper} {rest : List Oper} {a : Act} {w : World}
theorem wpListIn_next_run (hg : o.guard = none) (it : Operand) (hop : o.op = Op.next it false) {x v : Value} {w' : World} (hit : a.eval it = x) (hrun : (Instr.next x false o.type).run P w = .ok v w')
    (hK : wpListIn F n P ops Q rest (a.put o.dst v) w') : wpListIn F n P ops Q (o :: rest) a w := by
  refine wpListIn_plain hg fun K' hK' => ?_
  unfold Oper.wpIn
  refine ⟨by simp [Oper.about, hop], ?_⟩
  rw [Oper.semAt_plain F _ _ (by rw [hop]; intro c hc'; cases hc')]
  simp [execOp, hop, hit, hrun, Result.andThen]
  exact hK' _ _ hK
theorem wpListIn_entry_run (hg : o.guard = none) (it : Operand) (hop : o.op = Op.entry it) {x v : Value} {w' : World} (hit : a.eval it = x) (hrun : (Instr.entry x).run P w = .ok v w')
    (hK : wpListIn F n P ops Q rest (a.put o.dst v) w') : wpListIn F n P ops Q (o :: rest) a w := by
  refine wpListIn_plain hg fun K' hK' => ?_
  unfold Oper.wpIn
  refine ⟨by simp [Oper.about, hop], ?_⟩
  rw [Oper.semAt_plain F _ _ (by rw [hop]; intro c hc'; cases hc')]
  simp [execOp, hop, hit, hrun, Result.andThen]
  exact hK' _ _ hK
end

/-- The first step over a map of one entry. -/
theorem next_first {P : Program} {w : World} {r b : Nat} {e : MapEntry} (hr : w.heap[r]? = some (.mapIter (some b) 1 #[] 1)) (hb : w.heap[b]? = some (.map #[e] 1)) (he : e.born = 0) (T : TypeId) :
    (Instr.next (.pointer (some ⟨r, 0, none⟩)) false T).run P w = .ok (.tuple #[.bool true, e.key, e.val]) (w.putObj r (.mapIter (some b) 1 #[0] 1)) := by
  have h1 : (getObj r).run P w = .ok (.mapIter (some b) 1 #[] 1) w := by simp [getObj, Sem.run, hr]
  have h2 : (getObj b).run P w = .ok (.map #[e] 1) w := by simp [getObj, Sem.run, hb]
  have h3 : (setObj r (.mapIter (some b) 1 #[0] 1)).run P w = .ok () (w.putObj r (.mapIter (some b) 1 #[0] 1)) := by simp [setObj, Sem.run, hr, World.putObj]
  have h4 : (Question.mapNext 1).forced = true := by first | rfl | decide
  simp [Instr.next, h1, h2, he, h3, h4]
/-- The second one. -/
theorem next_second {P : Program} {w : World} {r b : Nat} {e : MapEntry} (hr : w.heap[r]? = some (.mapIter (some b) 1 #[0] 1)) (hb : w.heap[b]? = some (.map #[e] 1)) (he : e.born = 0) (T : TypeId) :
    (Instr.next (.pointer (some ⟨r, 0, none⟩)) false T).run P w = .ok (.tuple #[.bool false]) w := by
  have h1 : (getObj r).run P w = .ok (.mapIter (some b) 1 #[0] 1) w := by simp [getObj, Sem.run, hr]
  have h2 : (getObj b).run P w = .ok (.map #[e] 1) w := by simp [getObj, Sem.run, hb]
  have h4 : (Question.mapNext 1).forced = true := by first | rfl | decide
  simp [Instr.next, h1, h2, he, h4]
theorem entry_first {P : Program} {w : World} {r b : Nat} {e : MapEntry} (hr : w.heap[r]? = some (.mapIter (some b) 1 #[0] 1)) (hb : w.heap[b]? = some (.map #[e] 1)) (he : e.born = 0) :
    (Instr.entry (.pointer (some ⟨r, 0, none⟩))).run P w = .ok (.tuple #[e.key, e.val]) w := by
  have h1 : (getObj r).run P w = .ok (.mapIter (some b) 1 #[0] 1) w := by simp [getObj, Sem.run, hr]
  have h2 : (getObj b).run P w = .ok (.map #[e] 1) w := by simp [getObj, Sem.run, hb]
  simp [Instr.entry, h1, h2, he]
end Go.Proofs.YtdkindollljlnabGreatDoor

namespace Go.Proofs.YtdkindollljlnabGreatDoor
open Go Go.RowKit Go.Shelf

section
variable {F : Fence} {n : Nat} {P : Program} {ops : Array Oper} {Q : Exit → Act → World → Prop} {o : Oper} {rest : List Oper} {a : Act} {w : World}
/-- One operation that is no call and no defer, whose result is known. -/
theorem wpListIn_op_val (hg : o.guard = none) (hnc : ∀ c, o.op ≠ .call c) (hnd : ∀ c, o.op ≠ .defer c) {v : Value} {w' : World} (hrun : (execOp a.eval o).run P w = .ok (.value v) w')
    (hK : wpListIn F n P ops Q rest (a.put o.dst v) w') : wpListIn F n P ops Q (o :: rest) a w := by
  refine wpListIn_plain hg fun K' hK' => ?_
  unfold Oper.wpIn
  refine ⟨fun f hf => ?_, ?_⟩
  · unfold Oper.about at hf
    split at hf
    · rename_i c hc; exact absurd hc (hnc c)
    · cases hf
  rw [Oper.semAt_plain F _ _ hnd, hrun]
  exact hK' _ _ hK
theorem wpListIn_op_skip (hg : o.guard = none) (hnc : ∀ c, o.op ≠ .call c) (hnd : ∀ c, o.op ≠ .defer c) {w' : World} (hrun : (execOp a.eval o).run P w = .ok .skip w')
    (hK : wpListIn F n P ops Q rest (a.put o.dst undef) w') : wpListIn F n P ops Q (o :: rest) a w := by
  refine wpListIn_plain hg fun K' hK' => ?_
  unfold Oper.wpIn
  refine ⟨fun f hf => ?_, ?_⟩
  · unfold Oper.about at hf
    split at hf
    · rename_i c hc; exact absurd hc (hnc c)
    · cases hf
  rw [Oper.semAt_plain F _ _ hnd, hrun]
  exact hK' _ _ hK
end

/-- A fresh row that is stored over whole. -/
theorem exec_alloc_row {P : Program} {w : World} {T : TypeId} {z : Array Value} (hz : (zeroValue T).run P w = .ok (.agg z) w) (d : Option Tmp) (ty : TypeId) (pos : String) (af : Array Edge) (ρ : Operand → Value) :
    (execOp ρ ⟨d, .alloc T, ty, pos, af, none⟩).run P w = .ok (.value (.pointer (some ⟨w.heap.size, 0, none⟩))) (w.alloc (.cells z T)) := by
  simp [execOp, Instr.alloc, hz, newVar, newRow, Value.cells]
theorem exec_store_row {P : Program} {w : World} {T : TypeId} {z c : Array Value} {p x : Operand} {ρ : Operand → Value} (hi : (P.info? T).map (·.size) = some c.size) (hs : z.size = c.size) (h1 : c.all (·.oneCell') = true)
    (hp : ρ p = .pointer (some ⟨w.heap.size, 0, none⟩)) (hx : ρ x = .agg c) (d : Option Tmp) (ty : TypeId) (pos : String) (af : Array Edge) :
    (execOp ρ ⟨d, .store T p x, ty, pos, af, none⟩).run P (w.alloc (.cells z T)) = .ok .skip (w.alloc (.cells c T)) := by
  simp [execOp, hp, hx, run_storeAt_new (P := P) w T z c hi hs h1]
theorem exec_load_row {P : Program} {w : World} {T e : TypeId} {n : Nat} {c : Array Value} {p : Operand} {ρ : Operand → Value} (hi : (P.info? T).map (·.size) = some c.size) (hu : P.underlying T = some (.array n e))
    (hp : ρ p = .pointer (some ⟨w.heap.size, 0, none⟩)) (d : Option Tmp) (ty : TypeId) (pos : String) (af : Array Edge) :
    (execOp ρ ⟨d, .load T p, ty, pos, af, none⟩).run P (w.alloc (.cells c T)) = .ok (.value (.agg c)) (w.alloc (.cells c T)) := by
  simp [execOp, hp, run_loadAt_new (P := P) w T c n e hu hi]

theorem infoId : (Tryz.prog.info? 23).map (fun i => (i.zero, i.size, i.bytes)) = some (some (.agg (Array.replicate 20 (.int .u8 0))), 20, 20) := by kernel_rfl
theorem infoIdSize {c : Array Value} (h : c.size = 20) : (Tryz.prog.info? 23).map (·.size) = some c.size := by
  rw [h]; kernel_rfl
theorem zeroId (w : World) : (zeroValue 23).run Tryz.prog w = .ok (.agg (Array.replicate 20 (.int .u8 0))) w :=
  (zero_of_info (P := Tryz.prog) (t := 23) (v := .agg (Array.replicate 20 (.int .u8 0))) (n := 20) (by kernel_rfl)).1 w

theorem fill20 (k0 k1 k2 k3 k4 k5 k6 k7 k8 k9 k10 k11 k12 k13 k14 k15 k16 k17 k18 k19 : Value) : Instr.fill (fun i => some (i * 20, 20)) ((Array.range 20).map fun i => [Value.int .u8 0, Value.int .u8 0, Value.int .u8 0, Value.int .u8 0, Value.int .u8 0, Value.int .u8 0, Value.int .u8 0, Value.int .u8 0, Value.int .u8 0, Value.int .u8 0, Value.int .u8 0, Value.int .u8 0, Value.int .u8 0, Value.int .u8 0, Value.int .u8 0, Value.int .u8 0, Value.int .u8 0, Value.int .u8 0, Value.int .u8 0, Value.int .u8 0][i % 20]?.getD default) [(0, .agg #[k0, k1, k2, k3, k4, k5, k6, k7, k8, k9, k10, k11, k12, k13, k14, k15, k16, k17, k18, k19])] = some #[k0, k1, k2, k3, k4, k5, k6, k7, k8, k9, k10, k11, k12, k13, k14, k15, k16, k17, k18, k19] := by kernel_rfl
theorem fill20' {c : Array Value} (h : c.size = 20) : Instr.fill (fun i => some (i * 20, 20)) ((Array.range 20).map fun i => [Value.int .u8 0, Value.int .u8 0, Value.int .u8 0, Value.int .u8 0, Value.int .u8 0, Value.int .u8 0, Value.int .u8 0, Value.int .u8 0, Value.int .u8 0, Value.int .u8 0, Value.int .u8 0, Value.int .u8 0, Value.int .u8 0, Value.int .u8 0, Value.int .u8 0, Value.int .u8 0, Value.int .u8 0, Value.int .u8 0, Value.int .u8 0, Value.int .u8 0][i % 20]?.getD default) [(0, .agg c)] = some c := by
  obtain ⟨l⟩ := c
  have h : l.length = 20 := h
  match l, h with
  | [k0, k1, k2, k3, k4, k5, k6, k7, k8, k9, k10, k11, k12, k13, k14, k15, k16, k17, k18, k19], _ => exact fill20 k0 k1 k2 k3 k4 k5 k6 k7 k8 k9 k10 k11 k12 k13 k14 k15 k16 k17 k18 k19
theorem exec_buildSlice_id {w : World} {c : Array Value} {x : Operand} {ρ : Operand → Value} (hc : c.size = 20) (hx : ρ x = .agg c) (d : Option Tmp) (ty : TypeId) (pos : String) (af : Array Edge) :
    (execOp ρ ⟨d, .buildSlice 45 1 #[(0, x)], ty, pos, af, none⟩).run Tryz.prog w = .ok (.value (.slice (some ⟨w.heap.size, 0, none⟩) 1 1)) (w.alloc (.cells c 23)) := by
  have hu := Tryz.underlying45
  have hs : (sizeOf 23).run Tryz.prog w = .ok 20 w := by
    have h := infoIdSize hc
    cases hq : Tryz.prog.info? 23 with
    | none => rw [hq] at h; cases h
    | some i => rw [hq] at h; simp [sizeOf, typeInfo, hq]; simpa [hc] using h
  have hz := zeroId w
  have hf := fill20' hc
  simp only [execOp, Instr.buildSlice, underlying, Sem.run_bind]
  simp [hu, hs, hz, newRow, Value.cells, hx]
  split
  · rename_i cells hcells
    obtain rfl : c = cells := Option.some.inj (hf.symm.trans hcells)
    simp [go_sem]
  · rename_i hno
    exact absurd hf (hno _)

variable {H : Type}


/-- An id as a key. -/
structure IdK where
  kc : Array Value
  size : kc.size = 20
  one : kc.all (·.oneCell') = true

/-! ### What is left of a map's entries -/
theorem filter_none (e : MapEntry) : ∀ (l : List MapEntry), e.born ∉ l.map (·.born) → l.filter (fun x => !(x.born == e.born)) = l := by
  intro l h
  rw [List.filter_eq_self]
  intro x hx
  have : x.born ≠ e.born := fun q => h (List.mem_map.2 ⟨x, hx, q⟩)
  simpa using this
theorem perm_filter (e : MapEntry) : ∀ (l : List MapEntry), (l.map (·.born)).Nodup → e ∈ l → l.Perm (e :: l.filter (fun x => !(x.born == e.born))) := by
  intro l
  induction l with
  | nil => intro _ h; cases h
  | cons x r ih =>
    intro hn he
    rw [List.map_cons, List.nodup_cons] at hn
    rcases List.mem_cons.1 he with rfl | he
    · rw [List.filter_cons, if_neg (by simp), filter_none _ _ hn.1]
    · have hne : x.born ≠ e.born := fun q => hn.1 (q ▸ List.mem_map.2 ⟨e, he, rfl⟩)
      rw [List.filter_cons, if_pos (by simpa using hne)]
      exact ((ih hn.2 he).cons x).trans (List.Perm.swap _ _ _)
theorem left_push (es : Array MapEntry) (seen : Array Nat) (b : Nat) : (leftOf es (seen.push b)).toList = (leftOf es seen).toList.filter (fun x => !(x.born == b)) := by
  unfold leftOf
  rw [Array.toList_filter, Array.toList_filter, List.filter_filter]
  congr 1
  funext x
  rw [contains_push, Bool.not_or]
  exact Bool.and_comm _ _
theorem left_nodup {es : Array MapEntry} (hn : (es.toList.map (·.born)).Nodup) (seen : Array Nat) : ((leftOf es seen).toList.map (·.born)).Nodup := by
  unfold leftOf
  rw [Array.toList_filter]
  exact hn.sublist (List.filter_sublist.map _)
theorem left_step {es : Array MapEntry} (hn : (es.toList.map (·.born)).Nodup) {seen : Array Nat} {e : MapEntry} (he : e ∈ (leftOf es seen).toList) {xs : List MapEntry} (h : (xs ++ (leftOf es seen).toList).Perm es.toList) :
    ((xs ++ [e]) ++ (leftOf es (seen.push e.born)).toList).Perm es.toList := by
  rw [left_push, List.append_assoc]
  exact ((perm_filter e _ (left_nodup hn seen) he).symm.append_left xs).trans h
theorem left_none (es : Array MapEntry) : (leftOf es #[]).toList = es.toList := by
  unfold leftOf
  rw [Array.toList_filter, List.filter_eq_self]
  intro x _; simp
theorem born_nodup {es : Array MapEntry} (h : ∀ (i : Nat) (x : MapEntry), es[i]? = some x → x.born = i) : (es.toList.map (·.born)).Nodup := by
  have : es.toList.map (·.born) = List.range es.size := by
    apply List.ext_getElem?
    intro i
    rw [List.getElem?_map, Array.getElem?_toList]
    cases hi : es[i]? with
    | none =>
      have := Array.getElem?_eq_none_iff.1 hi
      rw [List.getElem?_eq_none (by simpa using this)]; rfl
    | some x =>
      have hlt := (Array.getElem?_eq_some_iff.1 hi).1
      rw [List.getElem?_range hlt, Option.map_some, h i x hi]
  rw [this]
  exact List.nodup_range
theorem born_lt {es : Array MapEntry} (h : ∀ (i : Nat) (x : MapEntry), es[i]? = some x → x.born = i) : ∀ x ∈ es.toList, x.born < es.size := by
  intro x hx
  obtain ⟨i, hi, rfl⟩ := List.getElem_of_mem hx
  have hlt : i < es.size := by simpa using hi
  rw [Array.getElem_toList, h i _ (Array.getElem?_eq_getElem hlt)]
  exact hlt

/-- What a step does to the world. -/
theorem next_known {P : Program} {w : World} (ty : TypeId) {r b : Nat} {seen : Array Nat} {es : Array MapEntry} (hr : w.heap[r]? = some (.mapIter (some b) es.size seen es.size)) (hb : w.heap[b]? = some (.map es es.size)) (hborn : ∀ (i : Nat) (x : MapEntry), es[i]? = some x → x.born = i) (hne : b ≠ r) :
    ((leftOf es seen).size = 0 ∧ (Instr.next (.pointer (some ⟨r, 0, none⟩)) false ty).run P w = .ok (.tuple #[.bool false]) w) ∨
    ∃ e ∈ (leftOf es seen).toList, ∃ w2 : World, (Instr.next (.pointer (some ⟨r, 0, none⟩)) false ty).run P w = .ok (.tuple #[.bool true, e.key, e.val]) w2 ∧ w.grownBy w2 (some r) ∧ w2.heap.size = w.heap.size ∧ w2.heap[r]? = some (.mapIter (some b) es.size (seen.push e.born) es.size) ∧ w2.heap[b]? = some (.map es es.size) := by
  have hrl := (Array.getElem?_eq_some_iff.1 hr).1
  rcases run_next_at (P := P) w ty r b es.size es.size seen es es.size hr hb (born_lt hborn) (Nat.le_refl _) with ⟨h0, h1⟩ | ⟨e, he, w1, hw1, hrun⟩
  · exact .inl ⟨h0, h1⟩
  · refine .inr ⟨e, he, _, hrun, ?_⟩
    have hh : w1.heap = w.heap := by rcases hw1 with rfl | rfl <;> rfl
    have ho : w1.os = w.os ∧ w1.tape = w.tape ∧ w1.output = w.output := by rcases hw1 with rfl | rfl <;> exact ⟨rfl, rfl, rfl⟩
    refine ⟨⟨ho.1, ho.2.1, ho.2.2, by simp [ChangeMaps.setBlock, hh], fun k hk hkr => ?_⟩, by simp [ChangeMaps.setBlock, hh], by simp [ChangeMaps.setBlock, hh, hrl], ?_⟩
    · simp only [ChangeMaps.setBlock, hh]
      exact Array.getElem?_setIfInBounds_ne (fun q => hkr (by rw [q]))
    · simp only [ChangeMaps.setBlock, hh]
      rw [Array.getElem?_setIfInBounds_ne (fun q => hne q.symm)]
      exact hb

end Go.Proofs.YtdkindollljlnabGreatDoor

