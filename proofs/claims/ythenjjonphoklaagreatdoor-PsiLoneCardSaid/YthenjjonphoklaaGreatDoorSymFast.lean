/-
  THE EXECUTOR, fast: one dispatch for an operation, closed minors. It is the same function (opF_eq).
-/
import Derived.Test.YthenjjonphoklaaGreatDoorSymS
set_option linter.unusedVariables false
set_option linter.unusedSimpArgs false
namespace Go.Proofs.YthenjjonphoklaaGreatDoor
open Go Go.RowKit

variable {P : Program}

abbrev R1 := Option SR
noncomputable def onSome : Option SV → (SV → R1) → R1 := @Option.rec SV (fun _ => (SV → R1) → R1) (fun _ => none) (fun s k => k s)
noncomputable def ev : Operand → Row → (SV → R1) → R1 := @Operand.rec (fun _ => Row → (SV → R1) → R1) (fun t st k => k (st.at t)) (fun v _ k => onSome (ofV v) k) (fun g _ k => k (.gptr g 0)) (fun f _ k => k (.fn (.func f) [] []))
theorem ev_eq (x : Operand) (st : Row) (k : SV → R1) : ev x st k = match evalS st x with
    | some s => k s
    | none => none := by
  cases x with
  | const v =>
    show onSome (ofV v) k = match ofV v with | some s => k s | none => none
    cases ofV v <;> rfl
  | _ => rfl
noncomputable def onPtr : SV → (Nat → Nat → R1) → R1 := @SV.rec (fun _ => (Nat → Nat → R1) → R1) (fun _ => Unit) (fun _ _ => fun _ => none) (fun _ => fun _ => none) (fun _ => fun _ => none) (fun _ => none) (fun _ => none) (fun n off k => k n off) (fun _ _ => fun _ => none) (fun _ _ _ _ => fun _ => none) (fun _ => none) (fun _ _ _ _ _ => fun _ => none) (fun _ => fun _ => none) (fun _ => none) (fun _ _ _ _ _ => fun _ => none) (fun _ => none) (fun _ _ _ => fun _ => none) (fun _ => none) (fun _ _ => fun _ => none) (fun _ _ => fun _ => none) (fun _ => fun _ => none) (fun _ _ _ => fun _ => none) () (fun _ _ _ _ => ())
theorem onPtr_eq (s : SV) (k : Nat → Nat → R1) : onPtr s k = match s with
    | .ptr n off => k n off
    | _ => none := by cases s <;> rfl
noncomputable def onInt : SV → (IntKind → Int → R1) → (Unit → R1) → R1 := @SV.rec (fun _ => (IntKind → Int → R1) → (Unit → R1) → R1) (fun _ => Unit) (fun k n f _ => f k n) (fun _ => fun _ d => d ()) (fun _ => fun _ d => d ()) (fun _ d => d ()) (fun _ d => d ()) (fun _ _ => fun _ d => d ()) (fun _ _ => fun _ d => d ()) (fun _ _ _ _ => fun _ d => d ()) (fun _ d => d ()) (fun _ _ _ _ _ => fun _ d => d ()) (fun _ => fun _ d => d ()) (fun _ d => d ()) (fun _ _ _ _ _ => fun _ d => d ()) (fun _ d => d ()) (fun _ _ _ => fun _ d => d ()) (fun _ d => d ()) (fun _ _ => fun _ d => d ()) (fun _ _ => fun _ d => d ()) (fun _ => fun _ d => d ()) (fun _ _ _ => fun _ d => d ()) () (fun _ _ _ _ => ())
theorem onInt_eq (s : SV) (f : IntKind → Int → R1) (d : Unit → R1) : onInt s f d = match s with
    | .int k n => f k n
    | _ => d () := by cases s <;> rfl
noncomputable def onBool : SV → (Bool → R1) → R1 := @SV.rec (fun _ => (Bool → R1) → R1) (fun _ => Unit) (fun _ _ => fun _ => none) (fun b k => k b) (fun _ => fun _ => none) (fun _ => none) (fun _ => none) (fun _ _ => fun _ => none) (fun _ _ => fun _ => none) (fun _ _ _ _ => fun _ => none) (fun _ => none) (fun _ _ _ _ _ => fun _ => none) (fun _ => fun _ => none) (fun _ => none) (fun _ _ _ _ _ => fun _ => none) (fun _ => none) (fun _ _ _ => fun _ => none) (fun _ => none) (fun _ _ => fun _ => none) (fun _ _ => fun _ => none) (fun _ => fun _ => none) (fun _ _ _ => fun _ => none) () (fun _ _ _ _ => ())
noncomputable def onStr : SV → (List Nat → R1) → (Unit → R1) → R1 := @SV.rec (fun _ => (List Nat → R1) → (Unit → R1) → R1) (fun _ => Unit) (fun _ _ => fun _ d => d ()) (fun _ => fun _ d => d ()) (fun l f _ => f l) (fun _ d => d ()) (fun _ d => d ()) (fun _ _ => fun _ d => d ()) (fun _ _ => fun _ d => d ()) (fun _ _ _ _ => fun _ d => d ()) (fun _ d => d ()) (fun _ _ _ _ _ => fun _ d => d ()) (fun _ => fun _ d => d ()) (fun _ d => d ()) (fun _ _ _ _ _ => fun _ d => d ()) (fun _ d => d ()) (fun _ _ _ => fun _ d => d ()) (fun _ d => d ()) (fun _ _ => fun _ d => d ()) (fun _ _ => fun _ d => d ()) (fun _ => fun _ d => d ()) (fun _ _ _ => fun _ d => d ()) () (fun _ _ _ _ => ())
noncomputable def onTuple : SV → (List SV → R1) → R1 := @SV.rec (fun _ => (List SV → R1) → R1) (fun _ => Unit) (fun _ _ => fun _ => none) (fun _ => fun _ => none) (fun _ => fun _ => none) (fun _ => none) (fun _ => none) (fun _ _ => fun _ => none) (fun _ _ => fun _ => none) (fun _ _ _ _ => fun _ => none) (fun _ => none) (fun _ _ _ _ _ => fun _ => none) (fun _ => fun _ => none) (fun _ => none) (fun _ _ _ _ _ => fun _ => none) (fun _ => none) (fun _ _ _ => fun _ => none) (fun _ => none) (fun _ _ => fun _ => none) (fun l _ k => k l) (fun _ => fun _ => none) (fun _ _ _ => fun _ => none) () (fun _ _ _ _ => ())
noncomputable def onAgg : SV → (List SV → R1) → (Unit → R1) → R1 := @SV.rec (fun _ => (List SV → R1) → (Unit → R1) → R1) (fun _ => Unit) (fun _ _ => fun _ d => d ()) (fun _ => fun _ d => d ()) (fun _ => fun _ d => d ()) (fun _ d => d ()) (fun _ d => d ()) (fun _ _ => fun _ d => d ()) (fun _ _ => fun _ d => d ()) (fun _ _ _ _ => fun _ d => d ()) (fun _ d => d ()) (fun _ _ _ _ _ => fun _ d => d ()) (fun _ => fun _ d => d ()) (fun _ d => d ()) (fun _ _ _ _ _ => fun _ d => d ()) (fun _ d => d ()) (fun _ _ _ => fun _ d => d ()) (fun _ d => d ()) (fun l _ f _ => f l) (fun _ _ => fun _ d => d ()) (fun _ => fun _ d => d ()) (fun _ _ _ => fun _ d => d ()) () (fun _ _ _ _ => ())
noncomputable def onSl : SV → (Nat → Nat → Nat → SCap → R1) → (Nat → Nat → R1) → (Unit → R1) → R1 := @SV.rec (fun _ => (Nat → Nat → Nat → SCap → R1) → (Nat → Nat → R1) → (Unit → R1) → R1) (fun _ => Unit) (fun _ _ => fun _ _ d => d ()) (fun _ => fun _ _ d => d ()) (fun _ => fun _ _ d => d ()) (fun _ _ d => d ()) (fun _ _ d => d ()) (fun n off _ g _ => g n off) (fun _ _ => fun _ _ d => d ()) (fun n off len c f _ _ => f n off len c) (fun _ _ d => d ()) (fun _ _ _ _ _ => fun _ _ d => d ()) (fun _ => fun _ _ d => d ()) (fun _ _ d => d ()) (fun _ _ _ _ _ => fun _ _ d => d ()) (fun _ _ d => d ()) (fun _ _ _ => fun _ _ d => d ()) (fun _ _ d => d ()) (fun _ _ => fun _ _ d => d ()) (fun _ _ => fun _ _ d => d ()) (fun _ => fun _ _ d => d ()) (fun _ _ _ => fun _ _ d => d ()) () (fun _ _ _ _ => ())
noncomputable def isNum : SV → Bool := @SV.rec (fun _ => Bool) (fun _ => Unit) (fun _ _ => false) (fun _ => false) (fun _ => false) (false) (false) (fun _ _ => false) (fun _ _ => false) (fun _ _ _ _ => false) (false) (fun _ _ _ _ _ => false) (fun _ => false) (false) (fun _ _ _ _ _ => false) (false) (fun _ _ _ => false) (false) (fun _ _ => false) (fun _ _ => false) (fun _ => false) (fun _ _ _ => true) () (fun _ _ _ _ => ())
noncomputable def isOne : SV → Bool := @SV.rec (fun _ => Bool) (fun _ => Unit) (fun _ _ => true) (fun _ => true) (fun _ => true) false (true) (fun _ _ => true) (fun _ _ => true) (fun _ _ _ _ => true) (true) (fun _ _ _ _ _ => true) (fun _ => true) (true) (fun _ _ _ _ _ => true) (true) (fun _ _ _ => true) (true) (fun _ _ => false) (fun _ _ => false) (fun _ => true) (fun _ _ _ => true) () (fun _ _ _ _ => ())
noncomputable def onCells : Option SO → (List SV → TypeId → Bool → R1) → R1 := @Option.rec SO (fun _ => (List SV → TypeId → Bool → R1) → R1) (fun _ => none) (@SO.rec (fun _ => (List SV → TypeId → Bool → R1) → R1) (fun l e x k => k l e x) (fun _ _ => none) (fun _ _ _ => none) (fun _ _ _ _ _ => none))
theorem onCells_eq (o : Option SO) (k : List SV → TypeId → Bool → R1) : onCells o k = match o with
    | some (.cells l e x) => k l e x
    | _ => none := by
  cases o with
  | none => rfl
  | some o => cases o <;> rfl

-- integers
noncomputable def iAdd (a b : Int) : Int :=
  @Int.rec (fun _ => Int) (fun x => @Int.rec (fun _ => Int) (fun y => Int.ofNat (Nat.add x y)) (fun y => Int.add (.ofNat x) (.negSucc y)) b) (fun x => Int.add (.negSucc x) b) a
theorem iAdd_eq (a b : Int) : iAdd a b = Int.add a b := by cases a <;> cases b <;> rfl
noncomputable def iSub (a b : Int) : Int :=
  @Int.rec (fun _ => Int) (fun x => @Int.rec (fun _ => Int) (fun y => @Bool.rec (fun _ => Int) (Int.sub (.ofNat x) (.ofNat y)) (Int.ofNat (Nat.sub x y)) (Nat.ble y x)) (fun y => Int.sub (.ofNat x) (.negSucc y)) b) (fun x => Int.sub (.negSucc x) b) a
theorem iSub_eq (a b : Int) : iSub a b = Int.sub a b := by
  cases a with
  | negSucc x => rfl
  | ofNat x => cases b with
    | negSucc y => rfl
    | ofNat y =>
      show @Bool.rec (fun _ => Int) (Int.sub (.ofNat x) (.ofNat y)) (Int.ofNat (x - y)) (Nat.ble y x) = _
      rw [rec_if]
      split
      · rename_i h
        show ((x - y : Nat) : Int) = (x : Int) - (y : Int)
        omega
      · rfl
noncomputable def wrapQ (k : IntKind) (n : Int) : Int := @Int.rec (fun _ => Int) (fun m => @Bool.rec (fun _ => Int) (wrapF k (.ofNat m)) (.ofNat m) (Nat.blt m (halfOf k))) (fun m => wrapF k (.negSucc m)) n
theorem wrapQ_eq (k : IntKind) (n : Int) : wrapQ k n = wrapF k n := by
  cases n with
  | negSucc m => rfl
  | ofNat m =>
    show @Bool.rec (fun _ => Int) (wrapF k (.ofNat m)) (.ofNat m) (Nat.blt m (halfOf k)) = _
    cases h : Nat.blt m (halfOf k) with
    | false => rfl
    | true =>
      have := Nat.le_of_ble_eq_true h
      exact ((wrapF_eq k (.ofNat m)).trans (wrap_half this)).symm
abbrev IF := IntKind → IntKind → Int → Int → Option SV
noncomputable def samek (k k' : IntKind) (r : Option SV) : Option SV := @Bool.rec (fun _ => Option SV) none r (Nat.beq (kN k) (kN k'))
noncomputable def fAdd : IF := fun k k' a b => samek k k' (some (.int k (wrapQ k (iAdd a b))))
noncomputable def fSub : IF := fun k k' a b => samek k k' (some (.int k (wrapQ k (iSub a b))))
noncomputable def fMul : IF := fun k k' a b => samek k k' (some (.int k (wrapF k (Int.mul a b))))
noncomputable def fAnd : IF := fun k k' a b => samek k k' (natsF k a b Nat.land)
noncomputable def fOr : IF := fun k k' a b => samek k k' (natsF k a b Nat.lor)
noncomputable def fXor : IF := fun k k' a b => samek k k' (natsF k a b Nat.xor)
noncomputable def fEq : IF := fun k k' a b => samek k k' (some (.bool (iEq a b)))
noncomputable def fNe : IF := fun k k' a b => samek k k' (some (.bool (@Bool.rec (fun _ => Bool) true false (iEq a b))))
noncomputable def fLt : IF := fun k k' a b => samek k k' (some (.bool (iLt a b)))
noncomputable def fLe : IF := fun k k' a b => samek k k' (some (.bool (@Bool.rec (fun _ => Bool) true false (iLt b a))))
noncomputable def fGt : IF := fun k k' a b => samek k k' (some (.bool (iLt b a)))
noncomputable def fGe : IF := fun k k' a b => samek k k' (some (.bool (@Bool.rec (fun _ => Bool) true false (iLt a b))))
noncomputable def fNo : IF := fun k k' _ _ => samek k k' none
noncomputable def intFF : BinOp → IF := @BinOp.rec (fun _ => IF) fAdd fSub fMul fNo fNo fAnd fOr fXor (intF .shl) (intF .shr) fNo fEq fNe fLt fLe fGt fGe
theorem intFF_eq (op : BinOp) (k k' : IntKind) (a b : Int) : intFF op k k' a b = intF op k k' a b := by
  cases op with
  | add => show samek k k' (some (.int k (wrapQ k (iAdd a b)))) = _; rw [wrapQ_eq, iAdd_eq]; rfl
  | sub => show samek k k' (some (.int k (wrapQ k (iSub a b)))) = _; rw [wrapQ_eq, iSub_eq]; rfl
  | _ => rfl

-- the operations
abbrev FO := Row → SH → R1
noncomputable def mkO (op : Op) : Oper := ⟨none, op, 0, "", #[], none⟩
noncomputable def slow (P : Program) (op : Op) : FO := fun st σ => sOpN P st (mkO op) σ
noncomputable def oMove (x : Operand) : FO := fun st σ => ev x st fun s => some (.val s σ)
noncomputable def oPick (c a b : Operand) : FO := fun st σ => ev c st fun c => ev a st fun a => ev b st fun b => onBool c fun t => some (.val (@Bool.rec (fun _ => SV) b a t) σ)
noncomputable def oAlloc (P : Program) (T : TypeId) : FO := fun _ σ => sAlloc P σ T
noncomputable def oBox (T : TypeId) (x : Operand) : FO := fun st σ => ev x st fun s => some (sBox σ T s)
noncomputable def evLR (xs : List Operand) (st : Row) : (List SV → R1) → R1 := @List.rec Operand (fun _ => (List SV → R1) → R1) (fun k => k []) (fun x _ ih k => ev x st fun a => ih fun l => k (a :: l)) xs
noncomputable def oBuild (P : Program) (T : TypeId) (ps : Array (Nat × Operand)) : FO := fun st σ => evLR (ps.toList.map (·.2)) st fun l => sBuild P σ T (zipIx (ps.toList.map (·.1)) l)
noncomputable def oBuildSl (P : Program) (T : TypeId) (n : Nat) (ps : Array (Nat × Operand)) : FO := fun st σ => match evalL st (ps.toList.map (·.2)) with
    | some [] => match n with
      | 0 => sBuildNone P σ T
      | n + 1 => sBuildSlice P σ T (n + 1) []
    | some l => sBuildSlice P σ T n (zipIx (ps.toList.map (·.1)) l)
    | none => none
-- is a type's value a row of cells? how many?
noncomputable def aggOf (P : Program) (T : TypeId) : Option (Option Nat) := match P.underlying T with
  | some d => if isAggD d then (match P.info? T with
      | some i => some (some i.size)
      | none => none)
    else some none
  | none => none
noncomputable def loadF (P : Program) (T : TypeId) (off : Nat) (σ : SH) (l : List SV) : R1 := @Option.rec (Option Nat) (fun _ => R1) none (@Option.rec Nat (fun _ => R1) (onSome (lget l off) fun s => some (.val s σ)) (fun z => @Bool.rec (fun _ => R1) none (some (.val (.agg (takeR (dropR l off) z)) σ)) (Nat.ble (Nat.add off z) (lenR l)))) (aggOf P T)
noncomputable def oLoad (P : Program) (T : TypeId) (x : Operand) : FO := fun st σ => ev x st fun s => onPtr s fun n off => onCells (σ.get n) fun l _ _ => loadF P T off σ l
noncomputable def size1 (P : Program) (T : TypeId) : Bool := match P.info? T with
  | some i => Nat.beq i.size 1
  | none => false
noncomputable def oStore (P : Program) (T : TypeId) (x y : Operand) : FO := fun st σ => ev x st fun a => ev y st fun s => @Bool.rec (fun _ => R1) (sStore P σ T a s) (onPtr a fun n off => onCells (σ.get n) fun l e ex => @Bool.rec (fun _ => R1) (sStore P σ T a s) (onSome (lget l off) fun _ => some (.val .undef (σ.put n (some (.cells (lset l off s) e ex))))) (size1 P T)) (isOne s)
noncomputable def nilF : SV → SH → R1 := @SV.rec (fun _ => SH → R1) (fun _ => Unit) (fun _ _ => fun _ => none) (fun _ => fun _ => none) (fun _ => fun _ => none) (fun _ => none) (fun _ => none) (fun n off σ => some (.val (.ptr n off) σ)) (fun _ _ => fun _ => none) (fun _ _ _ _ => fun _ => none) (fun _ => none) (fun _ _ _ _ _ => fun _ => none) (fun _ => fun _ => none) (fun _ => none) (fun f a b _ _ σ => sNilCheck σ (.fn f a b)) (fun _ => none) (fun t v _ σ => some (.val (.iface t v) σ)) (fun _ => none) (fun _ _ => fun _ => none) (fun _ _ => fun _ => none) (fun _ => fun _ => none) (fun _ _ _ => fun _ => none) () (fun _ _ _ _ => ())
noncomputable def oNil (x : Operand) : FO := fun st σ => ev x st fun s => nilF s σ
noncomputable def binF (P : Program) (op : BinOp) (T : TypeId) (x y : Operand) (B : TypeId) (st : Row) (σ : SH) (a b : SV) : R1 :=
  onInt a (fun k m => onInt b (fun k' n => @Option.rec SV (fun _ => R1) (slow P (.binOp op T x y B) st σ) (fun s => some (.val s σ)) (intFF op k k' m n)) fun _ => slow P (.binOp op T x y B) st σ) fun _ =>
  onStr a (fun l => onStr b (fun m => @Option.rec SV (fun _ => R1) none (fun s => some (.val s σ)) (sStr op l m)) fun _ => slow P (.binOp op T x y B) st σ) fun _ => slow P (.binOp op T x y B) st σ
noncomputable def oBin (P : Program) (op : BinOp) (T : TypeId) (x y : Operand) (B : TypeId) : FO := fun st σ => ev x st fun a => ev y st fun b => binF P op T x y B st σ a b
noncomputable def oUn (P : Program) (op : UnOp) (T : TypeId) (x : Operand) : FO := fun st σ => ev x st fun s => sPure1 P σ (Op.unary op) s
-- integers into integers
noncomputable def kindOf (P : Program) (S D : TypeId) : Option IntKind := match P.underlying S, P.underlying D with
  | some _, some (.int k) => some k
  | _, _ => none
noncomputable def oConv (P : Program) (S D : TypeId) (x : Operand) : FO := fun st σ => ev x st fun s => onInt s (fun k n => @Option.rec IntKind (fun _ => R1) (slow P (.convert S D x) st σ) (fun kd => some (.val (.int kd (wrapQ kd n)) σ)) (kindOf P S D)) fun _ => @Bool.rec (fun _ => R1) (sConvert2 P σ S D s) (slow P (.convert S D x) st σ) (isNum s)
noncomputable def oArr (P : Program) (T : TypeId) (x : Operand) : FO := fun st σ => ev x st fun s => sArr P σ T s
noncomputable def oIface (P : Program) (T : TypeId) (x : Operand) : FO := fun st σ => ev x st fun s => sMakeIface P σ T s
noncomputable def oFunc (f : Fn) (xs ys : Array Operand) : FO := fun st σ => evLR xs.toList st fun l => evLR ys.toList st fun m => some (.val (.fn f l m) σ)
noncomputable def oMakeSl (P : Program) (T : TypeId) (x y : Operand) : FO := fun st σ => ev x st fun a => ev y st fun b => sMakeSlice P σ T a b
noncomputable def oSlice (P : Program) (T : TypeId) (x : Operand) (lo hi mx : Option Operand) : FO := fun st σ => match evalS st x, intO st lo, intO st hi, intO st mx with
    | some s, some a, some b, some c => sSlice P σ T s a b c
    | _, _, _, _ => none
noncomputable def fieldOff (P : Program) (S f : Nat) : Option Nat := match P.underlying S with
    | some (.struct fields) => match fields[f]? with
      | some fd => match ssize P fd.type with
        | some k => if k = 0 then none else some fd.offset
        | none => none
      | none => none
    | _ => none
noncomputable def oFieldAddr (P : Program) (S : TypeId) (x : Operand) (f : Nat) : FO := fun st σ => ev x st fun s => onPtr s fun n off => @Option.rec Nat (fun _ => R1) none (fun o => some (.val (.ptr n (Nat.add off o)) σ)) (fieldOff P S f)
-- a field's place and, where it is a row of cells, its size
noncomputable def fieldAt (P : Program) (S f : Nat) : Option (Nat × Option Nat) := match P.underlying S with
    | some (.struct fields) => match fields[f]? with
      | some fd => match P.underlying fd.type with
        | some D => if isAggD D then (match ssize P fd.type with
            | some z => some (fd.offset, some z)
            | none => none)
          else some (fd.offset, none)
        | none => none
      | none => none
    | _ => none
noncomputable def partF (l : List SV) (off : Nat) (z : Option Nat) (σ : SH) : R1 := @Option.rec Nat (fun _ => R1) (onSome (lget l off) fun s => some (.val s σ)) (fun z => some (.val (.agg (takeR (dropR l off) z)) σ)) z
noncomputable def oField (P : Program) (S : TypeId) (x : Operand) (f : Nat) : FO := fun st σ => ev x st fun s => onAgg s (fun l => @Option.rec (Nat × Option Nat) (fun _ => R1) none (@Prod.rec Nat (Option Nat) (fun _ => R1) fun o z => partF l o z σ) (fieldAt P S f)) fun _ => none
-- a row's length (of an array) and an element's size
inductive RI where
  | no
  | arr (len z : Nat)
  | sl (z : Nat)
noncomputable def rowInfo (P : Program) (T : TypeId) : RI := match P.underlying T with
    | some (.array len e) => match ssize P e with
      | some z => .arr len z
      | none => .no
    | some (.slice e) => match ssize P e with
      | some z => .sl z
      | none => .no
    | _ => .no
noncomputable def natR (i : Int) (len : Nat) (k : Nat → R1) : R1 := @Int.rec (fun _ => R1) (fun n => @Bool.rec (fun _ => R1) none (k n) (Nat.blt n len)) (fun _ => none) i
noncomputable def oIndexAddr (P : Program) (T : TypeId) (x i : Operand) : FO := fun st σ => ev x st fun s => ev i st fun t => onInt t (fun _ i => onSl s
  (fun n off len _ => @RI.rec (fun _ => R1) none (fun _ _ => none) (fun z => natR i len fun k => some (.val (.ptr n (Nat.add off (Nat.mul k z))) σ)) (rowInfo P T))
  (fun n off => @RI.rec (fun _ => R1) none (fun len z => natR i len fun k => some (.val (.ptr n (Nat.add off (Nat.mul k z))) σ)) (fun _ => none) (rowInfo P T))
  fun _ => none) fun _ => none
noncomputable def oIndex (P : Program) (T : TypeId) (x i : Operand) : FO := fun st σ => ev x st fun s => ev i st fun t => sIndex P σ T s t
noncomputable def oLookup (P : Program) (T : TypeId) (x k : Operand) (ok : Bool) : FO := fun st σ => match evalS st x, evalS st k with
    | some a, some b => match b with
      | .str l => sLookupStr P σ T ok a (.str l)
      | .int kd l => sLookupInt P σ T ok a (.int kd l)
      | b => sLookup P σ T ok a b
    | _, _ => none
noncomputable def oMapUpd (P : Program) (T : TypeId) (x k v : Operand) : FO := fun st σ => match evalS st x, evalS st k, evalS st v with
    | some a, some b, some c => match b with
      | .str l => sMapUpdStr P σ T a (.str l) c
      | .int kd l => sMapUpdInt P σ T a (.int kd l) c
      | b => sMapUpd P σ T a b c
    | _, _, _ => none
noncomputable def oRange (P : Program) (T : TypeId) (x : Operand) : FO := fun st σ => ev x st fun s => sRange P σ T s
noncomputable def oNext (P : Program) (x : Operand) (b : Bool) : FO := fun st σ => ev x st fun s => sNext P σ b s
noncomputable def oEntry (x : Operand) : FO := fun st σ => ev x st fun s => sEntry σ s
noncomputable def oAssert (P : Program) (x : Operand) (X A : TypeId) (ok : Bool) : FO := fun st σ => ev x st fun s => sAssert P σ A ok s
noncomputable def oExtract (x : Operand) (i : Nat) : FO := fun st σ => ev x st fun s => onTuple s fun l => onSome (lget l i) fun s => some (.val s σ)
noncomputable def oMakeMap (P : Program) (T : TypeId) (r : Option Operand) : FO := fun st σ => @Option.rec Operand (fun _ => R1) (some (.val (.map σ.next) (σ.push (.map [])))) (fun _ => none) r
-- calls
noncomputable def cValue (P : Program) (f : Operand) (args : Array Operand) (tys : Array TypeId) : FO := fun st σ => evLR args.toList st fun l => @Operand.rec (fun _ => R1) (fun t => sCallOp P st ⟨.value (.tmp t), args, tys⟩ σ) (fun v => sCallOp P st ⟨.value (.const v), args, tys⟩ σ) (fun g => sCallOp P st ⟨.value (.global g), args, tys⟩ σ) (fun f => @Bool.rec (fun _ => R1) none (some (.enter f (appR l []) σ)) (goes P f)) f
noncomputable def len1 (P : Program) (args : Array Operand) (tys : Array TypeId) : FO := fun st σ => match args.toList, tys.toList with
    | [x], [T] => ev x st fun s => @Bool.rec (fun _ => R1) (@Option.rec SV (fun _ => R1) none (fun t => some (.val t σ)) (sLen P σ T s)) (slow P (.call ⟨.builtin .len, args, tys⟩) st σ) (isNum s)
    | _, _ => slow P (.call ⟨.builtin .len, args, tys⟩) st σ
noncomputable def oCall (P : Program) (c : Call) : FO := fun st σ => match c with
  | ⟨.value f, args, tys⟩ => cValue P f args tys st σ
  | ⟨.invoke r m, args, tys⟩ => sCallOp P st ⟨.invoke r m, args, tys⟩ σ
  | ⟨.builtin .len, args, tys⟩ => len1 P args tys st σ
  | ⟨.builtin .append, args, tys⟩ => sCallOp P st ⟨.builtin .append, args, tys⟩ σ
  | c => slow P (.call c) st σ
noncomputable def opF (P : Program) : OpF := fun st o σ => @Op.rec (fun _ => FO) oMove oMove oPick (oAlloc P) oBox (oBuild P) (oBuildSl P) (fun _ _ _ _ _ _ => none) (oLoad P) (oStore P) (fun _ _ _ => none) (fun _ _ _ => none) oNil (oBin P) (oUn P) (oConv P) (oArr P) (oIface P) oFunc (oMakeMap P) (fun _ _ _ _ => none) (oMakeSl P) (oSlice P) (oFieldAddr P) (oField P) (oIndexAddr P) (oIndex P) (oLookup P) (oMapUpd P) (fun _ _ _ _ _ => none) (fun _ _ _ _ _ _ => none) (oRange P) (oNext P) oEntry (oAssert P) oExtract (oCall P) (fun _ _ _ => none) (fun _ _ _ => none) (fun _ _ _ => none) (fun _ _ _ _ => none) (fun _ _ _ _ _ => none) (fun _ _ _ _ => none) o.op st σ

theorem evLR_eq (st : Row) : ∀ (xs : List Operand) (k : List SV → R1), evLR xs st k = match evalL st xs with
    | some l => k l
    | none => none := by
  intro xs
  induction xs with
  | nil => intro k; rfl
  | cons x r ih =>
    intro k
    show ev x st (fun a => evLR r st fun l => k (a :: l)) = _
    rw [ev_eq]
    simp only [evalL]
    cases evalS st x with
    | none => rfl
    | some a =>
      simp only [ih]
      cases evalL st r <;> rfl
theorem noNum {st : Row} {o : Oper} {σ : SH} (h : sNum P st o.op = none) : sOpN P st o σ = sOp P st o σ := by unfold sOpN; rw [h]
theorem slow_eq (st : Row) (o : Oper) (σ : SH) : slow P o.op st σ = sOpN P st o σ := rfl
theorem onSome_eq (o : Option SV) (k : SV → R1) : onSome o k = match o with
    | some s => k s
    | none => none := by cases o <;> rfl
theorem opF_eq : opF P = sOpN P := by
  funext st o σ
  obtain ⟨d, op, ty, pos, af, g⟩ := o
  cases op
  case move x => rw [noNum rfl]; exact ev_eq _ _ _
  case assign x => rw [noNum rfl]; exact ev_eq _ _ _
  case pick c a b =>
    rw [noNum rfl]
    show oPick c a b st σ = (match evalS st c, evalS st a, evalS st b with
      | some c, some a, some b => sPick c a b σ
      | _, _, _ => none)
    unfold oPick
    simp only [ev_eq]
    cases evalS st c <;> cases evalS st a <;> cases evalS st b <;> try rfl
    rename_i c a b
    cases c <;> try rfl
    rename_i t; cases t <;> rfl
  case alloc => rw [noNum rfl]; rfl
  case box T x => rw [noNum rfl]; exact ev_eq _ _ _
  case build T ps => rw [noNum rfl]; exact evLR_eq _ _ _
  case buildSlice => rw [noNum rfl]; rfl
  case load T x =>
    rw [noNum rfl]
    refine (ev_eq _ _ _).trans ?_
    show _ = (match evalS st x with
      | some s => sLoad P σ T s
      | none => none)
    cases evalS st x with
    | none => rfl
    | some s =>
      simp only [onPtr_eq]
      unfold sLoad sload
      cases s <;> try rfl
      rename_i n off
      simp only [onCells_eq]
      cases hg : σ.get n with
      | none => rfl
      | some o =>
        cases o <;> try rfl
        rename_i l e x
        simp only
        unfold loadF aggOf
        cases P.underlying T with
        | none => rfl
        | some d =>
          simp only
          by_cases hd : isAggD d
          · simp only [hd, if_true]
            cases P.info? T with
            | none => rfl
            | some i =>
              simp only [rec_if, takeR_eq, dropR_eq, lenR_eq]
              show (if off + i.size ≤ l.length then _ else _) = _
              split <;> rfl
          · simp only [hd, Bool.false_eq_true, if_false]
            cases lget l off <;> rfl
  case store T x y =>
    rw [noNum rfl]
    show oStore P T x y st σ = (match evalS st x, evalS st y with
      | some a, some s => sStore P σ T a s
      | _, _ => none)
    unfold oStore
    simp only [ev_eq]
    cases evalS st x with
    | none => rfl
    | some a =>
      cases evalS st y with
      | none => rfl
      | some s =>
        simp only
        cases ho : isOne s with
        | false => rfl
        | true =>
          have hc : cellsS s = [s] := by cases s <;> first | rfl | (exact absurd ho (by simp [isOne]))
          have h1 : oneS s = true := by cases s <;> first | rfl | (exact absurd ho (by simp [isOne]))
          simp only [onPtr_eq]
          cases a <;> try rfl
          rename_i n off
          unfold sStore sstore
          simp only [onCells_eq]
          cases hg : σ.get n with
          | none => rfl
          | some o =>
            cases o <;> try rfl
            rename_i l e ex
            simp only [size1]
            cases hi : P.info? T with
            | none => simp only [hg, hi]
            | some i =>
              simp only [hc, h1, hg, hi]
              cases hz : Nat.beq i.size 1 with
              | false => rfl
              | true => cases lget l off <;> rfl
  case nilCheck x =>
    rw [noNum rfl]
    refine (ev_eq _ _ _).trans ?_
    show _ = (match evalS st x with
      | some s => sNilCheck σ s
      | none => none)
    cases evalS st x with
    | none => rfl
    | some s => cases s <;> rfl
  case binOp op T x y B =>
    show oBin P op T x y B st σ = _
    unfold oBin binF
    simp only [ev_eq]
    have none1 : evalS st x = none → sOpN P st ⟨d, .binOp op T x y B, ty, pos, af, g⟩ σ = none := fun h => by
      have : sNum P st (.binOp op T x y B) = none := by cases op <;> simp only [sNum, h]
      rw [noNum this]; simp only [sOp, h]
    have none2 : evalS st y = none → sOpN P st ⟨d, .binOp op T x y B, ty, pos, af, g⟩ σ = none := fun h => by
      have : sNum P st (.binOp op T x y B) = none := by
        cases op <;> simp only [sNum, h] <;> (split <;> simp_all)
      rw [noNum this]
      cases hx : evalS st x <;> simp only [sOp, h, hx]
    cases hx : evalS st x with
    | none => exact (none1 hx).symm
    | some a =>
      cases hy : evalS st y with
      | none => exact (none2 hy).symm
      | some b =>
        have hs : slow P (.binOp op T x y B) st σ = sOpN P st ⟨d, .binOp op T x y B, ty, pos, af, g⟩ σ := rfl
        simp only [hs]
        cases a <;> try rfl
        case int k m =>
          cases b <;> try rfl
          rename_i k' n
          show @Option.rec SV (fun _ => R1) _ _ (intFF op k k' m n) = _
          rw [intFF_eq]
          cases hi : intF op k k' m n with
          | none => rfl
          | some s =>
            have h1 : sNum P st (.binOp op T x y B) = none := by cases op <;> simp only [sNum, hx]
            rw [noNum h1]
            have h2 : sNilEq P T x y (.int k m) (.int k' n) = none := by
              unfold sNilEq
              split <;> rfl
            have h3 : ∀ op', op' = op → sBin P σ op' T x y (.int k m) (.int k' n) = some (.val s σ) := fun op' e => by
              subst e; unfold sBin; simp only [hi]
            have e : sOp P st ⟨d, .binOp op T x y B, ty, pos, af, g⟩ σ = sBinary P σ op T x y (.int k m) (.int k' n) := by simp only [sOp, hx, hy]
            rw [e]
            cases op <;> simp only [sBinary, h2] <;> exact (h3 _ rfl).symm
        case str l =>
          cases b <;> try rfl
          rename_i m
          have h1 : sNum P st (.binOp op T x y B) = none := by cases op <;> simp only [sNum, hx]
          rw [noNum h1]
          have h2 : sNilEq P T x y (.str l) (.str m) = none := by
            unfold sNilEq
            split <;> rfl
          have e : sOp P st ⟨d, .binOp op T x y B, ty, pos, af, g⟩ σ = sBinary P σ op T x y (.str l) (.str m) := by simp only [sOp, hx, hy]
          rw [e]
          have h3 : ∀ op', op' = op → sBin P σ op' T x y (.str l) (.str m) = @Option.rec SV (fun _ => R1) none (fun s => some (.val s σ)) (sStr op l m) := fun op' e => by
            subst e; unfold sBin; simp only
            cases sStr op' l m <;> rfl
          cases op <;> simp only [sBinary, h2] <;> exact (h3 _ rfl).symm
  case unOp => rw [noNum rfl]; exact ev_eq _ _ _
  case convert S D x =>
    show oConv P S D x st σ = _
    unfold oConv
    simp only [ev_eq]
    have hs : slow P (.convert S D x) st σ = sOpN P st ⟨d, .convert S D x, ty, pos, af, g⟩ σ := rfl
    simp only [hs]
    cases hx : evalS st x with
    | none =>
      have : sNum P st (.convert S D x) = none := by simp only [sNum, hx]
      rw [noNum this]; simp only [sOp, hx]
    | some s =>
      have e : sOp P st ⟨d, .convert S D x, ty, pos, af, g⟩ σ = sConvert2 P σ S D s := by simp only [sOp, hx]
      have hn : isNum s = false → sNum P st (.convert S D x) = none := fun h => by
        cases s <;> first | (simp only [sNum, hx]; done) | (exact absurd h (by simp [isNum]))
      cases s <;> try (exact ((noNum (hn rfl)).trans e).symm)
      case num => rfl
      case int k n =>
        show @Option.rec IntKind (fun _ => R1) _ _ (kindOf P S D) = _
        unfold kindOf
        split
        · rename_i dS kd hS hD
          rw [noNum (hn rfl), e]
          have e2 : sConvert2 P σ S D (.int k n) = sPure1 P σ (convert S D) (.int k n) := rfl
          rw [e2]
          show some (SR.val (.int kd (wrapQ kd n)) σ) = _
          rw [wrapQ_eq, wrapF_eq]
          have : pureRun P (convert S D (.int k n)) = some (.int kd (kd.wrap n)) := by
            have hS' : ∀ {T : TypeId} {dT : TypeDesc} {β : Type} (f : TypeDesc → Sem β), P.underlying T = some dT → pureRun P (underlying T >>= f) = pureRun P (f dT) := fun {T dT β} f hT => by
              show pureRun P ((match P.underlying T with | some d => (pure d : Sem TypeDesc) | none => stuck "no such type") >>= f) = _
              rw [hT]; rfl
            unfold convert
            rw [hS' _ hS, hS' _ hD]
            rfl
          unfold sPure1
          simp only [plainV, this, ofCell]
        · rfl
  case sliceToArrayPointer => rw [noNum rfl]; exact ev_eq _ _ _
  case makeInterface => rw [noNum rfl]; exact ev_eq _ _ _
  case makeFunc f xs ys =>
    rw [noNum rfl]
    show oFunc f xs ys st σ = (match evalL st xs.toList, evalL st ys.toList with
      | some l, some m => some (.val (.fn f l m) σ)
      | _, _ => none)
    unfold oFunc
    simp only [evLR_eq]
    cases evalL st xs.toList with
    | none => rfl
    | some l => cases evalL st ys.toList <;> rfl
  case makeMap T r => rw [noNum rfl]; cases r <;> rfl
  case makeSlice T x y =>
    rw [noNum rfl]
    show oMakeSl P T x y st σ = (match evalS st x, evalS st y with
      | some a, some b => sMakeSlice P σ T a b
      | _, _ => none)
    unfold oMakeSl
    simp only [ev_eq]
    cases evalS st x <;> cases evalS st y <;> rfl
  case slice => rw [noNum rfl]; rfl
  case fieldAddr S x f =>
    rw [noNum rfl]
    refine (ev_eq _ _ _).trans ?_
    show _ = (match evalS st x with
      | some s => sFieldAddr P σ S f s
      | none => none)
    cases evalS st x with
    | none => rfl
    | some s =>
      cases s <;> try rfl
      rename_i n off
      show @Option.rec Nat (fun _ => R1) none (fun o => some (.val (.ptr n (off + o)) σ)) (fieldOff P S f) = _
      unfold sFieldAddr fieldOff
      cases P.underlying S with
      | none => rfl
      | some D =>
        cases D <;> try rfl
        rename_i fields
        simp only
        cases fields[f]? with
        | none => rfl
        | some fd =>
          simp only
          cases ssize P fd.type with
          | none => rfl
          | some k =>
            simp only
            by_cases h0 : k = 0
            · simp only [h0, if_true]
            · simp only [h0, if_false]
  case field S x f =>
    rw [noNum rfl]
    refine (ev_eq _ _ _).trans ?_
    show _ = (match evalS st x with
      | some s => sField P σ S f s
      | none => none)
    cases evalS st x with
    | none => rfl
    | some s =>
      cases s <;> try rfl
      rename_i l
      show @Option.rec (Nat × Option Nat) (fun _ => R1) none (@Prod.rec Nat (Option Nat) (fun _ => R1) fun o z => partF l o z σ) (fieldAt P S f) = _
      have hp : ∀ o z, partF l o z σ = match (match z with | some z => some (SV.agg ((l.drop o).take z)) | none => l[o]?) with
          | some s => some (.val s σ)
          | none => none := fun o z => by
        cases z with
        | none =>
          show onSome (lget l o) _ = _
          rw [onSome_eq, lget_eq]
        | some z =>
          show some (SR.val (.agg (takeR (dropR l o) z)) σ) = _
          rw [takeR_eq, dropR_eq]
      unfold sField fieldAt sPart
      cases P.underlying S with
      | none => rfl
      | some D =>
        cases D <;> try rfl
        rename_i fields
        simp only
        cases fields[f]? with
        | none => rfl
        | some fd =>
          simp only
          cases P.underlying fd.type with
          | none => rfl
          | some D =>
            simp only
            by_cases ha : isAggD D
            · simp only [ha, if_true]
              cases ssize P fd.type with
              | none => rfl
              | some z => exact hp _ _
            · simp only [ha, Bool.false_eq_true, if_false]
              exact hp _ _
  case indexAddr T x i =>
    rw [noNum rfl]
    show oIndexAddr P T x i st σ = (match evalS st x, evalS st i with
      | some s, some t => sIndexAddr P σ T s t
      | _, _ => none)
    unfold oIndexAddr
    simp only [ev_eq]
    have hn : ∀ (i : Int) (len : Nat) (k : Nat → R1), natR i len k = match natOf i len with
        | some n => k n
        | none => none := fun i len k => by
      cases i with
      | negSucc n => rfl
      | ofNat n =>
        show @Bool.rec (fun _ => R1) none (k n) (Nat.blt n len) = match @Bool.rec (fun _ => Option Nat) none (some n) (Nat.blt n len) with | some n => k n | none => none
        cases Nat.blt n len <;> rfl
    cases evalS st x with
    | none => rfl
    | some s =>
      cases evalS st i with
      | none => rfl
      | some t =>
        simp only
        cases t <;> try rfl
        rename_i ki i
        simp only [onInt_eq]
        unfold sIndexAddr
        simp only
        split
        · rename_i len e n off hu
          show @RI.rec (fun _ => R1) none _ (fun _ => none) (rowInfo P T) = _
          unfold rowInfo
          simp only [hu]
          cases ssize P e with
          | none => cases natOf i len <;> rfl
          | some z =>
            show natR i len _ = _
            rw [hn]
            cases natOf i len <;> rfl
        · rename_i e n off len c hu
          show @RI.rec (fun _ => R1) none (fun _ _ => none) _ (rowInfo P T) = _
          unfold rowInfo
          simp only [hu]
          cases ssize P e with
          | none => cases natOf i len <;> rfl
          | some z =>
            show natR i len _ = _
            rw [hn]
            cases natOf i len <;> rfl
        · rename_i s' o2 s2 h1 h2
          cases s' <;> try rfl
          · rename_i n off
            show @RI.rec (fun _ => R1) none _ (fun _ => none) (rowInfo P T) = _
            unfold rowInfo
            split
            · rename_i len e hu; exact (h1 len e n off hu rfl).elim
            · rename_i e hu; cases ssize P e <;> rfl
            · rfl
          · rename_i n off len c
            show @RI.rec (fun _ => R1) none (fun _ _ => none) _ (rowInfo P T) = _
            unfold rowInfo
            split
            · rename_i len' e hu; cases ssize P e <;> rfl
            · rename_i e hu; exact (h2 e n off len c hu rfl).elim
            · rfl
  case index T x i =>
    rw [noNum rfl]
    show oIndex P T x i st σ = (match evalS st x, evalS st i with
      | some s, some t => sIndex P σ T s t
      | _, _ => none)
    unfold oIndex
    simp only [ev_eq]
    cases evalS st x <;> cases evalS st i <;> rfl
  case lookup => rw [noNum rfl]; rfl
  case mapUpdate => rw [noNum rfl]; rfl
  case range => rw [noNum rfl]; exact ev_eq _ _ _
  case next => rw [noNum rfl]; exact ev_eq _ _ _
  case entry => rw [noNum rfl]; exact ev_eq _ _ _
  case typeAssert => rw [noNum rfl]; exact ev_eq _ _ _
  case extract x i =>
    rw [noNum rfl]
    refine (ev_eq _ _ _).trans ?_
    show _ = (match evalS st x with
      | some s => sExtract σ i s
      | none => none)
    cases evalS st x with
    | none => rfl
    | some s =>
      cases s <;> try rfl
      rename_i l
      show onSome (lget l i) (fun s => some (.val s σ)) = match l[i]? with | some s => some (.val s σ) | none => none
      rw [onSome_eq, lget_eq]
  case call c =>
    obtain ⟨callee, args, tys⟩ := c
    have hcall : sNum P st (.call ⟨callee, args, tys⟩) = none → sOpN P st ⟨d, .call ⟨callee, args, tys⟩, ty, pos, af, g⟩ σ = sCallOp P st ⟨callee, args, tys⟩ σ := fun h => noNum h
    cases callee with
    | value f =>
      have h1 : sNum P st (.call ⟨.value f, args, tys⟩) = none := rfl
      rw [hcall h1]
      show cValue P f args tys st σ = _
      unfold cValue
      rw [evLR_eq]
      have hn : evalL st args.toList = none → sCallOp P st ⟨.value f, args, tys⟩ σ = none := fun h => by
        simp only [sCallOp, h]; split <;> simp_all
      cases ha : evalL st args.toList with
      | none => exact (hn ha).symm
      | some l =>
        cases f with
        | func f =>
          show @Bool.rec (fun _ => R1) none (some (.enter f (appR l []) σ)) (goes P f) = _
          rw [appR_eq, List.append_nil]
          simp only [sCallOp, evalS, ha, List.nil_append, List.append_nil]
          cases goes P f <;> rfl
        | _ => rfl
    | invoke r m => rfl
    | builtin b =>
      cases b <;> try rfl
      case len =>
        show len1 P args tys st σ = _
        unfold len1
        split
        · rename_i x T ha ht
          rw [ev_eq]
          have e : sCallOp P st ⟨.builtin .len, args, tys⟩ σ = match evalS st x with
            | some s => match sLen P σ T s with
              | some t => some (.val t σ)
              | none => none
            | none => none := by simp only [sCallOp, ha, ht]; rfl
          have hnum : ∀ {r : Option SV}, evalS st x = r → (∀ s, r = some s → isNum s = false) → sNum P st (.call ⟨.builtin .len, args, tys⟩) = none := fun {r} hx hr => by
            simp only [sNum, ha, ht, hx]
            cases r with
            | none => rfl
            | some s => have := hr s rfl; cases s <;> first | rfl | (exact absurd this (by simp [isNum]))
          cases hx : evalS st x with
          | none =>
            rw [hcall (hnum hx fun s h => by cases h), e, hx]
          | some s =>
            simp only
            cases hnm : isNum s with
            | true => rfl
            | false =>
              rw [hcall (hnum hx fun s' h => by cases h; exact hnm), e, hx]
              simp only
              cases sLen P σ T s <;> rfl
        · rfl
  all_goals (rw [noNum rfl]; rfl)
end Go.Proofs.YthenjjonphoklaaGreatDoor
