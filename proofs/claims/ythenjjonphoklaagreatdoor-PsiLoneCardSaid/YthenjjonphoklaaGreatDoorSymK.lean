/-
  THE EXECUTOR, part K: conversions between strings and bytes, equality, make, type assertions.
-/
import Derived.Test.YthenjjonphoklaaGreatDoorSymJ
import Derived.Laws.IdiomStrings
import Derived.Laws.MakeOwn
import Derived.Laws.Pointers
import Derived.Laws.Cover3
import Derived.WideLaws
import Derived.DeepKeys
set_option linter.unusedVariables false
set_option linter.unusedSimpArgs false
namespace Go.Proofs.YthenjjonphoklaaGreatDoor
open Go Go.RowKit

variable {P : Program} {w0 : Base} {env : Env} {σ : SH} {w : World}

/-- The bytes of cells. -/
def byteCells : List SV → Option (List Nat)
  | [] => some []
  | .int .u8 n :: r => if 0 ≤ n ∧ n < 256 then (match byteCells r with
    | some l => some (n.toNat :: l)
    | none => none) else none
  | _ => none
theorem byteCells_den : ∀ {l : List SV} {bs : List Nat}, byteCells l = some bs → denL env l = some ((bs.map UInt8.ofNat).map fun b => Value.int .u8 b.toNat) := by
  intro l
  induction l with
  | nil => intro bs h; simp only [byteCells] at h; cases h; rfl
  | cons x r ih =>
    intro bs h
    unfold byteCells at h
    split at h
    · rename_i heq; cases heq
    · rename_i n r' heq
      simp only [List.cons.injEq] at heq
      obtain ⟨rfl, rfl⟩ := heq
      split at h
      · rename_i hb
        split at h
        · rename_i m hm; cases h
          simp only [List.map_cons]
          refine denL_mk ?_ (ih hm)
          simp only [den, Option.some.injEq, Value.int.injEq, true_and]
          simp
          omega
        · cases h
      · cases h
    · cases h

noncomputable def sConvert (P : Program) (σ : SH) (S D : TypeId) (x : SV) : Option SR := match x with
  | .int k n => sPure1 P σ (convert S D) (.int k n)
  | .str l => match P.underlying S, P.underlying D with
    | some .string, some .string => some (.val (.str l) σ)
    | some .string, some (.slice e) => match P.underlying e with
      | some (.int .u8) => if decide (P.cellsOf e = 1) && decide ((lenR l) ≤ 1099511627776) then some (.val (.slice σ.next 0 (lenR l) (.rest 0)) (σ.push (.cells (l.map fun b => .int .u8 (b % 256 : Nat)) e false))) else none
      | _ => none
    | _, _ => none
  | .slice n off len c => match P.underlying S, P.underlying D with
    | some (.slice e), some .string => match P.underlying e with
      | some (.int .u8) => match σ.get n with
        | some (.cells l _ _) => if off + len ≤ (lenR l) then (match byteCells (takeR (dropR l off) len) with
            | some bs => some (.val (.str bs) σ)
            | none => none) else none
        | _ => none
      | _ => none
    | _, _ => none
  | .nils => match P.underlying S, P.underlying D with
    | some (.slice e), some .string => match P.underlying e with
      | some (.int .u8) => some (.val (.str []) σ)
      | _ => none
    | _, _ => none
  | _ => none
theorem sConvert_ok (h : Rel P w0 env σ w) {S D : TypeId} {x : Operand} {a : SV} {r : SR} (hs : sConvert P σ S D a = some r) {ρ : Operand → Value} (hd : den env a = some (ρ x)) (d : Option Tmp) (ty : TypeId) (pos : String) (af : Array Edge) (g : Option (Nat × Bool)) :
    Outcome P w0 env ((execOp ρ ⟨d, .convert S D x, ty, pos, af, g⟩).run P w) r := by
  unfold sConvert at hs
  simp only [lenR_eq, takeR_eq, dropR_eq, appR_eq, allR_eq, mapR_eq] at hs
  split at hs
  · exact sConv_ok h hs hd d ty pos af g
  · rename_i l
    simp only [den, Option.some.injEq] at hd
    split at hs
    · rename_i h1 h2; cases hs
      refine .same (v := .string (bytesOf l)) ?_ h rfl
      simp [execOp, convert, run_underlying h1, run_underlying h2, ← hd]
    · rename_i e h1 h2
      split at hs
      · rename_i he
        split at hs
        · rename_i hc; cases hs
          simp only [Bool.and_eq_true, decide_eq_true_eq] at hc
          have hrun := run_bytes_of_string w S D e (bytesOf l) h1 h2 he
          rw [bytesOf_size] at hrun
          have hge := grownCap_ge w l.length 0 e
          have hm := grownCap_le_maxLen w l.length 0 e (by unfold maxLen; omega)
          have hsz : (bytesRow (bytesOf l) (grownCap w l.length 0 e)).size = grownCap w l.length 0 e := by
            unfold bytesRow
            have : (bytesOf l).data.size = l.length := bytesOf_size l
            simp [this, bytesOf_size]; omega
          have hrel : Rel P w0 (env.push σ.next w.drew.heap.size (grownCap w l.length 0 e)) (σ.push (.cells (l.map fun b => .int .u8 (b % 256 : Nat)) e false)) (w.drew.alloc (.cells (bytesRow (bytesOf l) (grownCap w l.length 0 e)) e ((bytesRow (bytesOf l) (grownCap w l.length 0 e)).size, (bytesRow (bytesOf l) (grownCap w l.length 0 e)).size + 1))) := by
            refine h.drew.push ⟨_, e, _, _, heap_alloc_new w.drew _, ?_, strCells_den l, ?_, (fun hx => by cases hx), fun _ => ⟨by rw [hsz, hc.1]; omega, hm, rfl⟩⟩
            · exact .inr (Nat.le_refl _)
            · unfold bytesRow
              have : (bytesOf l).data.size = l.length := bytesOf_size l
              rw [Array.toList_append, List.take_append_of_le_length (by simp [this]), List.take_of_length_le (by simp [this])]
              simp
          exact ⟨_, _, _, .inl (by simp only [execOp, Sem.run_bind, ← hd, hrun]; rfl), h.le_push _ _, hrel, by simp only [den, Env.new, capOf]; rfl⟩
        · cases hs
      · cases hs
    · cases hs
  · rename_i n off len c
    split at hs
    · rename_i e h1 h2
      split at hs
      · rename_i he
        split at hs
        · rename_i l e' ex hn
          split at hs
          · rename_i hle
            split at hs
            · rename_i bs hb; cases hs
              obtain ⟨b, k, hbk, hv⟩ := den_slice hd
              obtain ⟨vs, q1, q2, q3⟩ := h.loadCells hn hbk hle
              have q1' := byteCells_den (env := env) hb
              rw [q1'] at q1; cases q1
              have hbl : (bs.map UInt8.ofNat).length = len := by simpa using q2
              have hrun := run_convert_bytes_back (P := P) w S D e ⟨b, off, none⟩ (capOf k c) (bs.map UInt8.ofNat) h1 he h2 (fun j hj => by
                rw [add_none]
                have hj2 : j < len := by omega
                obtain ⟨v, d1, d2, _⟩ := h.cell hn hbk (List.getElem?_eq_getElem (show off + j < l.length by omega))
                rw [d2]
                obtain ⟨v', e1, e2⟩ := denL_get q1' (i := j) (s := l[off + j]) (by rw [List.getElem?_take, if_pos hj2, List.getElem?_drop]; exact List.getElem?_eq_getElem (by omega))
                rw [e2] at d1; cases d1
                rw [← e1, List.getElem?_map, List.getElem?_eq_getElem hj]
                rfl)
              rw [hbl] at hrun
              refine .same (v := .string ⟨(bs.map UInt8.ofNat).toArray⟩) ?_ h rfl
              simp only [execOp, Sem.run_bind, hv, hrun]; rfl
            · cases hs
          · cases hs
        · cases hs
      · cases hs
    · cases hs
  · split at hs
    · rename_i e h1 h2
      split at hs
      · rename_i he; cases hs
        simp only [den, Option.some.injEq] at hd
        have hrun := run_convert_bytes_string w S D e none 0 0 h1 he h2
        refine .same (v := .string (bytesOf [])) ?_ h rfl
        simp only [execOp, Sem.run_bind, ← hd, hrun]
        simp [Conv.bytesToString]; rfl
      · cases hs
    · cases hs
  · cases hs

/-- Written-out values without addresses. -/
def flatC : SV → Option Value
  | .int k n => some (.int k n)
  | .bool b => some (.bool b)
  | .str l => some (.string (bytesOf l))
  | _ => none
def flatL : List SV → Option (List Value)
  | [] => some []
  | x :: r => match flatC x, flatL r with
    | some a, some b => some (a :: b)
    | _, _ => none
theorem flatL_den : ∀ {l : List SV} {vs : List Value}, flatL l = some vs → denL env l = some vs := by
  intro l
  induction l with
  | nil => intro vs h; simp only [flatL] at h; cases h; rfl
  | cons x r ih =>
    intro vs h
    simp only [flatL] at h
    cases h1 : flatC x with
    | none => rw [h1] at h; cases h
    | some a =>
      cases h2 : flatL r with
      | none => rw [h1, h2] at h; cases h
      | some b =>
        rw [h1, h2] at h; cases h
        refine denL_mk ?_ (ih h2)
        cases x <;> simp only [flatC] at h1 <;> first | (cases h1; done) | (cases h1; rfl)

def eqLit : Lit → Lit → Option Bool
  | .bool a, .bool b => some (a == b)
  | .int k a, .int k' b => some (decide (k = k') && decide (a = b))
  | .string a, .string b => some (a == b)
  | _, _ => none
theorem eqLit_ok {a b : Lit} {t : Bool} (h : eqLit a b = some t) : t = true ↔ a = b := by
  unfold eqLit at h
  split at h <;> first | (cases h; done) | (cases h; simp)
def eqLits : List Lit → List Lit → Option Bool
  | [], [] => some true
  | a :: r, b :: s => match eqLit a b, eqLits r s with
    | some x, some y => some (x && y)
    | _, _ => none
  | _, _ => none
theorem eqLits_ok : ∀ {a b : List Lit} {t : Bool}, eqLits a b = some t → (t = true ↔ a = b) := by
  intro a
  induction a with
  | nil =>
    intro b t h
    cases b with
    | nil => simp only [eqLits] at h; cases h; simp
    | cons y s => simp only [eqLits] at h; cases h
  | cons x r ih =>
    intro b t h
    cases b with
    | nil => simp only [eqLits] at h; cases h
    | cons y s =>
      simp only [eqLits] at h
      cases h1 : eqLit x y with
      | none => rw [h1] at h; cases h
      | some p =>
        cases h2 : eqLits r s with
        | none => rw [h1, h2] at h; cases h
        | some q =>
          rw [h1, h2] at h; cases h
          rw [Bool.and_eq_true, eqLit_ok h1, ih h2]
          simp
/-- Two structs or arrays without addresses: are they one? -/
noncomputable def sEqAgg (P : Program) (T : TypeId) (a b : List SV) : Option Bool := match flatL a, flatL b with
  | some x, some y => if P.keyTypeAt 8 T && (Value.agg x.toArray).formed P T && (Value.agg y.toArray).formed P T then (match P.keyLits 8 T x, P.keyLits 8 T y with
    | some la, some lb => eqLits la lb
    | _, _ => none) else none
  | _, _ => none
theorem sEqAgg_ok {T : TypeId} {a b : List SV} {t : Bool} (hs : sEqAgg P T a b = some t) {x y : List Value} (hx : denL env a = some x) (hy : denL env b = some y) (w : World) :
    (Op.equalIn 10000 T (.agg x.toArray) (.agg y.toArray)).run P w = .ok t w := by
  unfold sEqAgg at hs
  split at hs
  · rename_i x' y' h1 h2
    rw [flatL_den h1] at hx; cases hx
    rw [flatL_den h2] at hy; cases hy
    split at hs
    · rename_i hc
      simp only [Bool.and_eq_true] at hc
      obtain ⟨⟨c1, c2⟩, c3⟩ := hc
      split at hs
      · rename_i la lb g1 g2
        obtain ⟨r, hr, hiff⟩ := run_equalIn_deep 9992 8 T c1 w 8 8 (.agg x.toArray) (.agg y.toArray) la lb c2 c3 (by simpa [Value.cells] using g1) (by simpa [Value.cells] using g2)
        have hs := eqLits_ok hs
        have : r = t := by
          rw [Bool.eq_iff_iff, hiff, hs]
        rw [← this]; exact hr
      · cases hs
    · cases hs
  · cases hs
end Go.Proofs.YthenjjonphoklaaGreatDoor
