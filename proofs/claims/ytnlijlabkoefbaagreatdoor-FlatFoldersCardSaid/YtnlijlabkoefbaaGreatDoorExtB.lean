/-
  bytes.Compare, as a contract and as the executor's summary; permutations.
-/
import Derived.Test.YtnlijlabkoefbaaGreatDoorExtA
set_option linter.unusedVariables false
set_option linter.unusedSimpArgs false
namespace Go.Proofs.YtnlijlabkoefbaaGreatDoor
open Go Go.RowKit

section
variable {P : Program} {w0 : Base} {env : Env} {σ : SH} {w : World}
/-- What bytes a row holds. -/
def BytesAt (w : World) (b off : Nat) (bs : List Nat) : Prop := ∀ (j x : Nat), bs[j]? = some x → w.cell? ⟨b, off + j, none⟩ = some (.int .u8 ((UInt8.ofNat x).toNat : Nat))
theorem Rel.bytesAt (h : Rel P w0 env σ w) {n b c off len : Nat} {l : List SV} {e : TypeId} {ex : Bool} {bs : List Nat} (hn : σ.get n = some (.cells l e ex)) (he : env.blocks n = some (b, c)) (hk : off + len ≤ l.length)
    (hb : byteCells ((l.drop off).take len) = some bs) : bs.length = len ∧ BytesAt w b off bs := by
  have hd := byteCells_den (env := env) hb
  have hl := denL_length hd
  rw [List.length_map, List.length_map, List.length_take, List.length_drop, Nat.min_eq_left (by omega)] at hl
  refine ⟨hl, fun j x hx => ?_⟩
  have hj : j < bs.length := (List.getElem?_eq_some_iff.1 hx).1
  obtain ⟨v, hv, hc, _⟩ := h.cell hn he (List.getElem?_eq_getElem (show off + j < l.length by omega))
  obtain ⟨v', hv', hd'⟩ := denL_get hd (i := j) (s := l[off + j]) (by rw [List.getElem?_take, if_pos (by omega), List.getElem?_drop]; exact List.getElem?_eq_getElem (by omega))
  rw [hd'] at hv; cases hv
  rw [hc]
  rw [List.getElem?_map, List.getElem?_map, hx] at hv'
  exact hv'.symm
theorem run_loadBytes (b : Nat) : ∀ (bs : List Nat) (off : Nat) (acc : ByteArray), BytesAt w b off bs → (Extern.Bytes.loadBytes ⟨b, off, none⟩ bs.length acc).run P w = .ok ⟨acc.data ++ (bs.map UInt8.ofNat).toArray⟩ w := by
  intro bs
  induction bs with
  | nil => intro off acc _; simp [Extern.Bytes.loadBytes]
  | cons x r ih =>
    intro off acc h
    have h0 := h 0 x rfl
    rw [Nat.add_zero] at h0
    have hr : BytesAt w b (off + 1) r := fun j y hy => by
      have := h (j + 1) y (by simpa using hy)
      rw [show off + 1 + j = off + (j + 1) by omega]; exact this
    have hl : (load (⟨b, off, none⟩ : Addr)).run P w = .ok (.int .u8 ((UInt8.ofNat x).toNat : Nat)) w := by simp [h0]
    simp only [List.length_cons, Extern.Bytes.loadBytes, Sem.run_bind, hl, Result.andThen_ok, add_none]
    rw [ih (off + 1) _ hr]
    congr 2
    have hx : (((UInt8.ofNat x).toNat : Nat) : Int).toNat.toUInt8 = UInt8.ofNat x := by rw [Int.toNat_natCast]; exact UInt8.ofNat_toNat
    rw [hx]
    apply Array.ext'
    simp [ByteArray.push]
theorem run_bytesOf_slice (b off cap : Nat) (bs : List Nat) (h : BytesAt w b off bs) : (Extern.Bytes.bytesOf (.slice (some ⟨b, off, none⟩) bs.length cap)).run P w = .ok (bytesOf bs) w := by
  simp only [Extern.Bytes.bytesOf]
  rw [run_loadBytes b bs off .empty h]
  congr 1
  unfold _root_.Go.Proofs.YtnlijlabkoefbaaGreatDoor.bytesOf
  congr 1
  show (#[] : Array UInt8) ++ _ = _
  simp
theorem run_compareSlices (b off cap b' off' cap' : Nat) (bs cs : List Nat) (h : BytesAt w b off bs) (h' : BytesAt w b' off' cs) :
    (Extern.BytealgCompare.compare #[.slice (some ⟨b, off, none⟩) bs.length cap, .slice (some ⟨b', off', none⟩) cs.length cap']).run P w = .ok (.int .i64 (cmpS bs cs)) w := by
  change Sem.run P (do pure (goInt (Extern.BytealgCompare.cmp (← Extern.Bytes.bytesOf (.slice (some ⟨b, off, none⟩) bs.length cap)) (← Extern.Bytes.bytesOf (.slice (some ⟨b', off', none⟩) cs.length cap'))))) w = _
  simp only [Sem.run_bind, run_bytesOf_slice b off cap bs h, run_bytesOf_slice b' off' cap' cs h', Sem.run_pure, Result.andThen]
  rw [Lib.cmp_eq, bytesOf_list, bytesOf_list, cmpS_ok]
  rfl
end

set_option maxRecDepth 100000 in
theorem bytesCompare_any (b off cap b' off' cap' : Nat) (bs cs : List Nat) (w : World) (h : BytesAt w b off bs) (h' : BytesAt w b' off' cs) :
    Calls Tryz.prog 62 #[.slice (some ⟨b, off, none⟩) bs.length cap, .slice (some ⟨b', off', none⟩) cs.length cap'] w fun e w' => e = .returned (.int .i64 (cmpS bs cs)) ∧ w' = w := by
  have hc := run_compareSlices (P := Tryz.prog) (w := w) b off cap b' off' cap' bs cs h h'
  generalize bs.length = m at hc ⊢
  generalize cs.length = n at hc ⊢
  generalize cmpS bs cs = r at hc ⊢
  go_enter Tryz.func62, Tryz.ntmps62
  go_wp2_with fail
  rw [run_callFunc_extern Tryz.func93 (by kernel_rfl) (by kernel_rfl) (by kernel_rfl) (e := Extern.BytealgCompare.compare) (by kernel_rfl), hc]
  simp only [Result.andThen]
  rw [Oper.upon_value]
  go_wp2_with fail
  go_ret
  exact ⟨rfl, rfl⟩

noncomputable def compareBOut (args : List SV) (σ : SH) : Option Outs := match args with
  | [.slice n off len _, .slice m off' len' _] => match σ.get n, σ.get m with
    | some (.cells l _ _), some (.cells k _ _) => match byteCells ((l.drop off).take len), byteCells ((k.drop off').take len') with
      | some bs, some cs => @Bool.rec (fun _ => Option Outs) none (some [(.int .i64 (cmpS bs cs), σ)]) (Nat.ble (off + len) l.length && Nat.ble (off' + len') k.length)
      | _, _ => none
    | _, _ => none
  | _ => none
theorem compareBOut_ok (b : Base) {args : List SV} {σ : SH} {outs : Outs} {env : Env} {w : World} {vs : List Value} (h : compareBOut args σ = some outs) (hr : Rel Tryz.prog b env σ w) (ha : denL env args = some vs) :
    Calls Tryz.prog 62 vs.toArray w (Comes1 Tryz.prog b env outs) := by
  unfold compareBOut at h
  split at h
  · rename_i n off len c m off' len' c'
    split at h
    · rename_i l e1 x1 k e2 x2 hn hm
      split at h
      · rename_i bs cs hbs hcs
        cases hc : (Nat.ble (off + len) l.length && Nat.ble (off' + len') k.length) with
        | false => rw [hc] at h; cases h
        | true =>
          rw [hc] at h
          replace h : some [(SV.int .i64 (cmpS bs cs), σ)] = some outs := h
          cases h
          rw [Bool.and_eq_true] at hc
          have k1 := Nat.le_of_ble_eq_true hc.1
          have k2 := Nat.le_of_ble_eq_true hc.2
          obtain ⟨v, us, h1, h2, rfl⟩ := denL_cons ha
          obtain ⟨v2, us2, h3, h4, rfl⟩ := denL_cons h2
          simp only [denL] at h4; cases h4
          obtain ⟨b1, q1, he1, rfl⟩ := den_slice h1
          obtain ⟨b2, q2, he2, rfl⟩ := den_slice h3
          obtain ⟨l1, hb1⟩ := hr.bytesAt hn he1 k1 hbs
          obtain ⟨l2, hb2⟩ := hr.bytesAt hm he2 k2 hcs
          subst l1; subst l2
          refine (bytesCompare_any b1 off _ b2 off' _ bs cs w hb1 hb2).mono ?_
          rintro e w' ⟨rfl, rfl⟩
          exact ⟨_, List.mem_singleton.2 rfl, env, _, rfl, Env.le_refl _, hr, by simp only [den]⟩
      · cases h
    · cases h
  · cases h

section
variable {P : Program} {w : World}
theorem run_indexSlice (b off cap : Nat) (bs : List Nat) (c : Nat) (hc : c < 256) (h : BytesAt w b off bs) :
    (Extern.BytealgIndexByte.indexByte #[.slice (some ⟨b, off, none⟩) bs.length cap, .int .u8 (c : Nat)]).run P w = .ok (.int .i64 (idxS c bs)) w := by
  have e := Lib.run_indexByteString (P := P) (bytesOf bs) (c : Nat) w
  have e2 : (Extern.BytealgIndexByte.indexByte #[.slice (some ⟨b, off, none⟩) bs.length cap, .int .u8 (c : Nat)]).run P w = (Extern.BytealgIndexByte.indexByte #[.string (bytesOf bs), .int .u8 (c : Nat)]).run P w := by
    change Sem.run P (do
      let b' ← Extern.Bytes.bytesOf (.slice (some ⟨b, off, none⟩) bs.length cap)
      let c' ← Extern.Bytes.asByte (.int .u8 (c : Nat))
      match (List.range b'.size).find? fun i => b'[i]! == c' with
      | some i => pure (goInt i)
      | none => pure (goInt (-1))) w = Sem.run P (do
      let b' ← Extern.Bytes.bytesOf (.string (bytesOf bs))
      let c' ← Extern.Bytes.asByte (.int .u8 (c : Nat))
      match (List.range b'.size).find? fun i => b'[i]! == c' with
      | some i => pure (goInt i)
      | none => pure (goInt (-1))) w
    have e3 : (Extern.Bytes.bytesOf (.string (bytesOf bs))).run P w = .ok (bytesOf bs) w := by simp only [Extern.Bytes.bytesOf, Sem.run_pure]
    simp only [Sem.run_bind, run_bytesOf_slice b off cap bs h, e3]
  rw [e2, e, ← idxS_ok c hc bs]
  rfl
end
set_option maxRecDepth 100000 in
theorem bytesIndex_any (b off cap : Nat) (bs : List Nat) (c : Nat) (hc : c < 256) (w : World) (h : BytesAt w b off bs) :
    Calls Tryz.prog 115 #[.slice (some ⟨b, off, none⟩) bs.length cap, .int .u8 (c : Nat)] w fun e w' => e = .returned (.int .i64 (idxS c bs)) ∧ w' = w := by
  have hx := run_indexSlice (P := Tryz.prog) (w := w) b off cap bs c hc h
  generalize bs.length = m at hx ⊢
  generalize idxS c bs = r at hx ⊢
  generalize ((c : Nat) : Int) = ci at hx ⊢
  go_enter Tryz.func115, Tryz.ntmps115
  go_wp2_with fail
  rw [run_callFunc_extern Tryz.func155 (by kernel_rfl) (by kernel_rfl) (by kernel_rfl) (e := Extern.BytealgIndexByte.indexByte) (by kernel_rfl), hx]
  simp only [Result.andThen]
  rw [Oper.upon_value]
  go_wp2_with fail
  go_ret
  exact ⟨rfl, rfl⟩
noncomputable def indexBOut (args : List SV) (σ : SH) : Option Outs := match args with
  | [.slice n off len _, .int .u8 (.ofNat c)] => match σ.get n with
    | some (.cells l _ _) => match byteCells ((l.drop off).take len) with
      | some bs => @Bool.rec (fun _ => Option Outs) none (some [(.int .i64 (idxS c bs), σ)]) (Nat.ble (off + len) l.length && Nat.blt c 256)
      | none => none
    | _ => none
  | _ => none
theorem indexBOut_ok (b : Base) {args : List SV} {σ : SH} {outs : Outs} {env : Env} {w : World} {vs : List Value} (h : indexBOut args σ = some outs) (hr : Rel Tryz.prog b env σ w) (ha : denL env args = some vs) :
    Calls Tryz.prog 115 vs.toArray w (Comes1 Tryz.prog b env outs) := by
  unfold indexBOut at h
  split at h
  · rename_i n off len cp c
    split at h
    · rename_i l e1 x1 hn
      split at h
      · rename_i bs hbs
        cases hc : (Nat.ble (off + len) l.length && Nat.blt c 256) with
        | false => rw [hc] at h; cases h
        | true =>
          rw [hc] at h
          replace h : some [(SV.int .i64 (idxS c bs), σ)] = some outs := h
          cases h
          rw [Bool.and_eq_true] at hc
          have k1 := Nat.le_of_ble_eq_true hc.1
          have k2 : c < 256 := Nat.le_of_ble_eq_true hc.2
          obtain ⟨v, us, h1, h2, rfl⟩ := denL_cons ha
          obtain ⟨v2, us2, h3, h4, rfl⟩ := denL_cons h2
          simp only [denL] at h4; cases h4
          simp only [den, Option.some.injEq] at h3; subst h3
          obtain ⟨b1, q1, he1, rfl⟩ := den_slice h1
          obtain ⟨l1, hb1⟩ := hr.bytesAt hn he1 k1 hbs
          subst l1
          refine (bytesIndex_any b1 off _ bs c k2 w hb1).mono ?_
          rintro e w' ⟨rfl, rfl⟩
          exact ⟨_, List.mem_singleton.2 rfl, env, _, rfl, Env.le_refl _, hr, by simp only [den]⟩
      · cases h
    · cases h
  · cases h

/-- All orders of a list. -/
def insertAll {α : Type} (x : α) : List α → List (List α)
  | [] => [[x]]
  | y :: r => (x :: y :: r) :: (insertAll x r).map (y :: ·)
def perms {α : Type} : List α → List (List α)
  | [] => [[]]
  | x :: r => (perms r).flatMap (insertAll x)
theorem mem_insertAll {α : Type} (x : α) : ∀ (a b : List α), a ++ x :: b ∈ insertAll x (a ++ b) := by
  intro a
  induction a with
  | nil => intro b; cases b <;> simp [insertAll]
  | cons y r ih => intro b; simp only [List.cons_append, insertAll]; exact List.mem_cons_of_mem _ (List.mem_map.2 ⟨_, ih b, rfl⟩)
theorem mem_perms {α : Type} : ∀ (l ys : List α), ys.Perm l → ys ∈ perms l := by
  intro l
  induction l with
  | nil => intro ys h; rw [List.Perm.eq_nil h]; simp [perms]
  | cons x r ih =>
    intro ys h
    have hx : x ∈ ys := h.mem_iff.2 (by simp)
    obtain ⟨a, b, rfl⟩ := List.append_of_mem hx
    have hp : (a ++ b).Perm r := (List.perm_middle.symm.trans h).cons_inv
    exact List.mem_flatMap.2 ⟨a ++ b, ih _ hp, mem_insertAll x a b⟩
end Go.Proofs.YtnlijlabkoefbaaGreatDoor
