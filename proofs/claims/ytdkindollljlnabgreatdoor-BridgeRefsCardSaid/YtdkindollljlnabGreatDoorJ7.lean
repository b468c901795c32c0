/-
  BridgeRefs: what is known of the name and of the id; the operations on them that the executor does not know.

  marks.pairs at a nil slice: a range over slices.Chunk that never comes to a round.

  marks.pairs at a nil slice, as a summary of the executor.

  A closed call over one known block, as a summary for every heap that holds such a block.

  A block of the world taken up into the heap.

  maps.Clone at the map types of stores and repositories, as contracts and as summaries of the executor.

  slices.AppendSeq over an iterator that gives ids: one round.

  slices.AppendSeq(nil, seq) and slices.Collect(seq) for an iterator that gives strings. (The proofs follow the kit's own contract of the iterator idiom, at this seat's numbers.)

  Functions without a body: strings.IndexByte, strings.Compare, as contracts and as the executor's summaries.

  All orders of a list.

  What Collect over the keys of a map gives: the parts that name no map.

  The keys of a map of objects.

  slices.AppendSeq(nil, keys) and slices.Collect(keys) for an iterator that gives ids; then slices.Collect(maps.Keys) of a known map.

  bytes.Compare, as a contract and as the executor's summary.
-/
import Derived.Test.YtdkindollljlnabGreatDoorJ6
import Derived.RangeFuncNested
import Derived.RangeFuncBound
import Derived.RangeFuncCalls
import Derived.RangeFuncLeaves
import Derived.RangeFuncFrom
import Derived.Shelf.Abstract
import Derived.WalkKit
import Derived.OwnWalkIn
import Derived.TacticsInMore
import Derived.LoopNIn
import Derived.LoopIn
import Derived.RangeFuncOne
import Derived.Test.YtdkindollljlnabGreatDoorChecked
import Derived.Test.YtdkindollljlnabGreatDoorJ5
import Derived.Below
import Derived.Maps.RangeRun
import Derived.Shelf.SlMaps.Clone
import Derived.ProofKit
import Derived.Maps.AppendAt
import Derived.Lib.Bytealg
import Derived.Lib.Walk
import Derived.RangeFuncGives
import Derived.Deep.WholeRow
import Derived.Laws.IdiomRangeMap
set_option linter.unusedSectionVars false
set_option linter.unusedSimpArgs false
set_option linter.unusedVariables false
namespace Go.Proofs.YtdkindollljlnabGreatDoor
open Go Go.RowKit

/-- The id of the blob that the law puts; the zero id. -/
def blobN : List Nat := [193, 176, 115, 14, 1, 51, 68, 123, 173, 207, 212, 127, 209, 68, 226, 84, 128, 123, 6, 225]
def zeroN : List Nat := [0, 0, 0, 0, 0, 0, 0, 0, 0, 0, 0, 0, 0, 0, 0, 0, 0, 0, 0, 0]
theorem blob20 : Id20 blobN := ⟨rfl, by decide⟩
theorem zero20 : Id20 zeroN := ⟨rfl, by decide⟩
/-- The name: a text of at most 300 bytes. -/
noncomputable def nameS : SV := .num 0 [(0, 0), (300, 0)] false
noncomputable def idS : List SV := opqFrom 3 20
noncomputable def isName (s : SV) : Bool := match s with
  | .num i fs u => Nat.beq i 0 && (match fs with
    | [(a, b), (c, d)] => Nat.beq a 0 && (Nat.beq b 0 && (Nat.beq c 300 && Nat.beq d 0))
    | _ => false) && !u
  | _ => false
theorem isName_ok {s : SV} (h : isName s = true) : s = nameS := by
  unfold isName at h
  split at h
  · rename_i i fs u
    rw [Bool.and_eq_true, Bool.and_eq_true] at h
    obtain ⟨⟨h1, h2⟩, h3⟩ := h
    split at h2
    · rename_i a b c d
      rw [Bool.and_eq_true, Bool.and_eq_true, Bool.and_eq_true] at h2
      obtain ⟨e1, e2, e3, e4⟩ := h2
      rw [Nat.eq_of_beq_eq_true h1, Nat.eq_of_beq_eq_true e1, Nat.eq_of_beq_eq_true e2, Nat.eq_of_beq_eq_true e3, Nat.eq_of_beq_eq_true e4]
      cases u
      · rfl
      · cases h3
    · cases h2
  · cases h
/-- What is known: the name; oth: the id is another one than these two. -/
structure NameK (nm : ByteArray) (ns : List Nat) (oth : Bool) (w : World) (keep : Nat → Prop) (g : Nat → Value) : Prop where
  name : g 0 = .string nm
  short : nm.size ≤ 300
  id20 : oth = true → Id20 ns ∧ ns ≠ blobN ∧ ns ≠ zeroN
  ids : oth = true → ∀ env : Env, env.given = g → denL env idS = some (idV ns)
  k3 : keep 0
  k4 : keep 1
  tabs : Lib.Utf8Tabs 0 1 w
theorem tabs_same {w w' : World} (h : Lib.Utf8Tabs 0 1 w) (h3 : w'.heap[(0 : Nat)]? = w.heap[(0 : Nat)]?) (h4 : w'.heap[(1 : Nat)]? = w.heap[(1 : Nat)]?) : Lib.Utf8Tabs 0 1 w' :=
  ⟨fun c hc => (World.cell?_of_block h3).trans (h.1 c hc), fun i hi => ⟨(World.cell?_of_block h4).trans (h.2 i hi).1, (World.cell?_of_block h4).trans (h.2 i hi).2⟩⟩
@[reducible] def knownB (nm : ByteArray) (ns : List Nat) (oth : Bool) : Known where
  ok := NameK nm ns oth
  mono := fun w w' k k' g hk h => { h with
    k3 := (hk _ h.k3).1
    k4 := (hk _ h.k4).1
    tabs := tabs_same h.tabs (hk _ h.k3).2 (hk _ h.k4).2 }

/-- Is it the id that is not known, held against one of the two? -/
noncomputable def eqId (x y : SV) : Bool := match x, y with
  | .agg x, .agg y => eqSL x idS && (eqSL y (u8s zeroN) || eqSL y (u8s blobN))
  | _, _ => false
noncomputable def keyB (P : Program) (oth : Bool) (kt : TypeId) (k : SV) (es : List (SV × SV)) : Bool :=
  (isName k && ((match P.underlying kt with | some .string => true | _ => false) && es.isEmpty)) ||
  (oth && (Nat.beq kt 23 && (eqS k (.agg idS) && es.all fun e => eqS e.1 (.agg (u8s blobN)))))
noncomputable def lookB (P : Program) (oth : Bool) (σ : SH) (T : TypeId) (ok : Bool) (m k : SV) : Option SR := match m with
  | .map n => match P.underlying T, σ.get n with
    | some (.map kt et), some (.map es) => match keyB P oth kt k es, szero P et with
      | true, some z => some (.val (if ok then .tuple [z, .bool false] else z) σ)
      | _, _ => none
    | _, _ => none
  | _ => none
noncomputable def askB (P : Program) (oth : Bool) : OpF := fun st o σ => match o.op with
  | .binOp .eql 23 a b _ => match evalS st a, evalS st b with
    | some x, some y => if oth && eqId x y then some (.val (.bool false) σ) else none
    | _, _ => none
  | .binOp .neq 23 a b _ => match evalS st a, evalS st b with
    | some x, some y => if oth && eqId x y then some (.val (.bool true) σ) else none
    | _, _ => none
  | .lookup T m k ok => match evalS st m, evalS st k with
    | some x, some y => lookB P oth σ T ok x y
    | _, _ => none
  | _ => none
def oqB : Op → Bool
  | .binOp _ _ _ _ _ | .lookup _ _ _ _ => true
  | _ => false
section
variable {nm : ByteArray} {ns : List Nat} {oth : Bool}
theorem eqId_ok {env : Env} {w : World} {keep : Nat → Prop} (hk : NameK nm ns oth w keep env.given) (ho : oth = true) {x y : SV} (h : eqId x y = true) {v u : Value} (hx : den env x = some v) (hy : den env y = some u) :
    ∃ ms, Id20 ms ∧ ns ≠ ms ∧ v = .agg (idV ns).toArray ∧ u = .agg (idV ms).toArray := by
  unfold eqId at h
  split at h
  · rename_i a b
    rw [Bool.and_eq_true, Bool.or_eq_true] at h
    obtain ⟨h1, h2⟩ := h
    obtain rfl := eqSL_ok _ _ h1
    obtain ⟨_, n1, n2⟩ := hk.id20 ho
    have hv : v = .agg (idV ns).toArray := by
      simp only [den, hk.ids ho env rfl, Option.some.injEq] at hx
      exact hx.symm
    rcases h2 with h2 | h2
    · obtain rfl := eqSL_ok _ _ h2
      simp only [den, u8s_den, Option.some.injEq] at hy
      exact ⟨zeroN, zero20, n2, hv, hy.symm⟩
    · obtain rfl := eqSL_ok _ _ h2
      simp only [den, u8s_den, Option.some.injEq] at hy
      exact ⟨blobN, blob20, n1, hv, hy.symm⟩
  · cases h
theorem name_den {env : Env} {w : World} {keep : Nat → Prop} (hk : NameK nm ns oth w keep env.given) {v : Value} (h : den env nameS = some v) : v = .string nm := by
  unfold nameS at h
  simp only [den, hk.name] at h
  unfold numOf' at h
  revert h
  repeat' split
  all_goals intro h
  all_goals first | (cases h; done) | (simp_all; done)
theorem keyB_ok {P' : Program} {env : Env} {w0 w : World} {keep : Nat → Prop} (hk : NameK nm ns oth w0 keep env.given) {kt : TypeId} {k : SV} {es : List (SV × SV)} (h : keyB Tryz.prog oth kt k es = true) {kv : Value} (hkv : den env k = some kv) {ents : List MapEntry} (he : denL env (es.map (·.1)) = some (ents.map (·.key))) :
    (∀ em w, (Instr.checkKey em 10000 kt kv).run Tryz.prog w = .ok () w) ∧ (Instr.findKey kt kv ents).run Tryz.prog w = .ok none w := by
  unfold keyB at h
  rw [Bool.or_eq_true] at h
  rcases h with h | h
  · rw [Bool.and_eq_true, Bool.and_eq_true] at h
    obtain ⟨h1, h2, h3⟩ := h
    obtain rfl := isName_ok h1
    obtain rfl := name_den hk hkv
    have hs : Tryz.prog.underlying kt = some .string := by
      split at h2
      · rename_i e; exact e
      · cases h2
    obtain rfl : es = [] := List.isEmpty_iff.1 h3
    have : ents = [] := by have := denL_length he; simpa using this
    subst this
    exact ⟨fun em w => check_str hs nm em w, Go.MapKept.run_findKey hs rfl⟩
  · simp only [Bool.and_eq_true] at h
    obtain ⟨ho, h1, h2, h3⟩ := h
    obtain rfl := Nat.eq_of_beq_eq_true h1
    obtain rfl := eqS_ok _ _ h2
    obtain ⟨i20, n1, n2⟩ := hk.id20 ho
    have hv : kv = .agg (idV ns).toArray := by
      simp only [den, hk.ids ho env rfl, Option.some.injEq] at hkv
      exact hkv.symm
    subst hv
    refine ⟨fun em w => id_check i20 em w, id_findKey i20 w ents fun e hm => ?_⟩
    have key : ∀ (es : List (SV × SV)) (ents : List MapEntry), (es.all fun e => eqS e.1 (.agg (u8s blobN))) = true → denL env (es.map (·.1)) = some (ents.map (·.key)) → ∀ e ∈ ents, e.key = .agg (idV blobN).toArray := by
      intro es
      induction es with
      | nil =>
        intro ents _ h e hm
        have : ents = [] := by have := denL_length h; simpa using this
        subst this; cases hm
      | cons x r ih =>
        intro ents h1 h2 e hm
        cases ents with
        | nil => cases hm
        | cons a l =>
          simp only [List.map_cons, List.all_cons, Bool.and_eq_true] at h1 h2
          obtain ⟨u, us, d1, d2, e1⟩ := denL_cons h2
          simp only [List.cons.injEq] at e1
          obtain ⟨rfl, rfl⟩ := e1
          rcases List.mem_cons.1 hm with rfl | hm
          · rw [eqS_ok _ _ h1.1] at d1
            simp only [den, u8s_den, Option.some.injEq] at d1
            exact d1.symm
          · exact ih l h1.2 d2 e hm
    exact ⟨blobN, blob20, n1, key es ents h3 he e hm⟩
theorem askB_ok : @AskOk (knownB nm ns oth) Tryz.prog (askB Tryz.prog oth) oqB := by
  letI : Known := knownB nm ns oth
  refine { sound := ?_, cong := ?_, still := ?_, told := ?_ }
  · intro w0 st o σ r env a w hs ho hr hf
    have hk : NameK nm ns oth w0.w w0.keep env.given := hr.okay.2.2
    obtain ⟨d, op, ty, pos, af, g⟩ := o
    have E : ∀ {x : Operand} {s : SV}, evalS st x = some s → den env s = some (a.eval x) := fun hx => evalS_den hf.tmps hx
    unfold askB at hs
    simp only at hs
    split at hs
    · rename_i x y B
      split at hs
      · rename_i s t hx hy
        split at hs
        · rename_i hc; cases hs
          rw [Bool.and_eq_true] at hc
          obtain ⟨ms, m20, hne, e1, e2⟩ := eqId_ok hk hc.1 hc.2 (E hx) (E hy)
          have hrun := id_eq (hk.id20 hc.1).1 m20 w
          rw [decide_eq_false hne] at hrun
          refine .same (v := .bool false) ?_ hr rfl
          simp [execOp, e1, e2, eqGuard, binOp, Op.equal, Op.maxDepth, hrun]
        · cases hs
      · cases hs
    · rename_i x y B
      split at hs
      · rename_i s t hx hy
        split at hs
        · rename_i hc; cases hs
          rw [Bool.and_eq_true] at hc
          obtain ⟨ms, m20, hne, e1, e2⟩ := eqId_ok hk hc.1 hc.2 (E hx) (E hy)
          have hrun := id_eq (hk.id20 hc.1).1 m20 w
          rw [decide_eq_false hne] at hrun
          refine .same (v := .bool true) ?_ hr rfl
          simp [execOp, e1, e2, eqGuard, binOp, Op.equal, Op.maxDepth, hrun]
        · cases hs
      · cases hs
    · rename_i T x y ok
      split at hs
      · rename_i s t hx hy
        unfold lookB at hs
        split at hs
        · rename_i n
          split at hs
          · rename_i kt et es hu hn
            split at hs
            · rename_i z hkb hz; cases hs
              obtain ⟨b, c, he, em⟩ := den_map (E hx)
              obtain ⟨b', c', e1, hb, ents, clock, ks, vs, g1, g2, g3, g4, g5, _⟩ := hr.obj n _ hn
              rw [he] at e1; cases e1
              subst g4; subst g5
              obtain ⟨zv, hdz, hzr⟩ := szero_ok (env := env) hz
              obtain ⟨hck, hrun⟩ := keyB_ok (P' := Tryz.prog) (w := w) hk hkb (E hy) g2
              cases ok with
              | true => exact .same (v := .tuple #[zv, .bool false]) (by simp [execOp, Instr.lookup, run_underlying hu, em, run_getObj_map g1, hck, hrun, hzr]) hr (den_pair hdz rfl)
              | false => exact .same (v := zv) (by simp [execOp, Instr.lookup, run_underlying hu, em, run_getObj_map g1, hck, hrun, hzr]) hr hdz
            · cases hs
          · cases hs
        · cases hs
      · cases hs
    · cases hs
  · intro ops st st' o σ h
    have E : ∀ x ∈ o.op.operands, evalS st x = evalS st' x := fun x hx => evalS_cong fun t ht => h t (by
      subst ht
      exact List.mem_append_left _ (List.mem_filterMap.2 ⟨.tmp t, by simpa using hx, rfl⟩))
    obtain ⟨d, op, ty, pos, af, g⟩ := o
    simp only at E
    unfold askB
    simp only
    split
    · rename_i x y B; rw [E x (by simp [Op.operands]), E y (by simp [Op.operands])]
    · rename_i x y B; rw [E x (by simp [Op.operands]), E y (by simp [Op.operands])]
    · rename_i T x y ok; rw [E x (by simp [Op.operands]), E y (by simp [Op.operands])]
    · rfl
  · intro st o σ s σ' _ h
    unfold askB lookB at h
    (repeat' split at h) <;> first | (cases h; done) | (cases h; rfl)
  · intro st o σ r h
    unfold askB at h
    split at h
    · rename_i e; rw [e]; rfl
    · rename_i e; rw [e]; rfl
    · rename_i e; rw [e]; rfl
    · cases h
end
end Go.Proofs.YtdkindollljlnabGreatDoor

namespace Go.Proofs.YtdkindollljlnabGreatDoor
open Go Go.RowKit Go.Shelf

attribute [local go_sem] Oper.semAt_some

theorem cell_new_l (W : World) (v : Value) (t : TypeId) : (W.alloc (.cells #[v] t)).cell? ⟨W.heap.size, 0, none⟩ = some v ∧ (W.alloc (.cells #[v] t)).frozen? ⟨W.heap.size, 0, none⟩ = false := by
  have h := World.alloc_heap_new W (.cells #[v] t)
  constructor <;> simp only [World.cell?, World.frozen?, h] <;> rfl
theorem cell_alloc_l {W : World} {a : Addr} {v : Value} (o : Obj) (h : W.cell? a = some v) : (W.alloc o).cell? a = some v := cell_kept h (World.grownBy_alloc W o none) (fun r e => by cases e)
theorem frozen_alloc_l {W : World} {a : Addr} {v : Value} (o : Obj) (h : W.cell? a = some v) (hf : W.frozen? a = false) : (W.alloc o).frozen? a = false := (frozen_kept h (World.grownBy_alloc W o none) (fun r e => by cases e)).trans hf

/-- slices.Chunk hands back its closure. -/
theorem chunk_in (F : Fence) (n : Nat) (h : F.fn 124) (hro : F.round = none) (w : World) :
    CallsIn F n Tryz.prog 124 #[.slice none 0 0, .int .i64 40] w fun e W' => e = .returned (.func (.func 165) #[] #[.pointer (some ⟨w.heap.size, 0, none⟩), .pointer (some ⟨w.heap.size + 1, 0, none⟩)]) ∧
      W' = (w.alloc (.cells #[.slice none 0 0] 33)).alloc (.cells #[.int .i64 40] 3) := by
  refine callsIn_of_wp Tryz.func124 rfl h ?_ hro
  simp only [Tryz.ntmps124, List.size_toArray, List.length_cons, List.length_nil, Nat.reduceAdd, Nat.reduceSub, Array.replicate_succ, Array.replicate_zero, List.push_toArray, List.append_toArray, List.nil_append, List.cons_append]
  gi_wp2
  refine bodyPost_ret (results_tmp rfl _ _ _) rfl ?_
  exact ⟨rfl, rfl⟩

theorem chunk1_stops (F : Fence) (n : Nat) (h : F.fn 165) (hro : F.round = none) (A B : Nat) (w : World) (hA : w.cell? ⟨A, 0, none⟩ = some (.slice none 0 0)) (hAlt : A < w.heap.size) :
    SeqStopsK (α := Unit) F n Tryz.prog 165 #[.pointer (some ⟨A, 0, none⟩), .pointer (some ⟨B, 0, none⟩)] (fun _ => #[.slice none 0 0]) (Below w.heap.size) (fun xs => xs = []) (fun _ => False) 0 w := by
  intro l J Jx W hW hJ hJx hY h0
  have hA' : W.cell? ⟨A, 0, none⟩ = some (.slice none 0 0) := (hW.cell (p := ⟨A, 0, none⟩) hAlt).trans hA
  refine callsIn_of_wp Tryz.func165 rfl h ?_ hro
  simp only [Tryz.ntmps165, List.size_toArray, List.length_cons, List.length_nil, Nat.reduceAdd, Nat.reduceSub, Array.replicate_succ, Array.replicate_zero, List.push_toArray, List.append_toArray, List.nil_append, List.cons_append]
  gi_wp2
  gi_loopw [4] (fun p wr => p = .int .i64 0 ∧ wr = W) (fun p wr => 0)
  case atStart => exact ⟨rfl, rfl⟩
  case round =>
    obtain ⟨rfl, rfl⟩ := hrel
    gi_wp2
    go_end0
    exact ⟨⟨_, rfl⟩, .inl ⟨[], rfl, h0⟩⟩

set_option maxRecDepth 100000 in
set_option maxHeartbeats 2000000 in
theorem pairs_in (F : Fence) (n : Nat) (h : F.fn 90) (h1 : F.fn 124) (h2 : F.fn 165) (hro : F.round = none) (hn : 3 ≤ n) (w : World) :
    CallsIn F n Tryz.prog 90 #[.slice none 0 0] w fun e W' => e = .returned (.tuple #[.slice none 0 0, .bool false]) ∧ Below w.heap.size w W' := by
  have hn1 : 1 ≤ n := by omega
  refine callsIn_of_wp_marks Tryz.func90 rfl h ?_ hro
  simp only [Tryz.ntmps90, List.size_toArray, List.length_cons, List.length_nil, Nat.reduceAdd, Nat.reduceSub, Array.replicate_succ, Array.replicate_zero, List.push_toArray, List.append_toArray, List.nil_append, List.cons_append]
  gi_wp2_with (gi_at_call 124; refine (chunk_in F (n - 1) h1 hro _).mono ?_; rintro e w' ⟨rfl, rfl⟩)
  have c2 := cell_new_l w (.slice none 0 0) 51
  have c3 := cell_new_l (w.alloc (.cells #[.slice none 0 0] 51)) (.bool false) 4
  have c4 := cell_new_l ((w.alloc (.cells #[.slice none 0 0] 51)).alloc (.cells #[.bool false] 4)) (.slice none 0 0) 51
  have c5 := cell_new_l (((w.alloc (.cells #[.slice none 0 0] 51)).alloc (.cells #[.bool false] 4)).alloc (.cells #[.slice none 0 0] 51)) (.slice none 0 0) 33
  simp only [World.size_alloc] at c3 c4 c5
  have hB0 : Below w.heap.size w (((((w.alloc (.cells #[.slice none 0 0] 51)).alloc (.cells #[.bool false] 4)).alloc (.cells #[.slice none 0 0] 51)).alloc (.cells #[.slice none 0 0] 33)).alloc (.cells #[.int .i64 40] 3)) :=
    (((((Below.refl _ w).alloc (Nat.le_refl _) _).alloc (by simp) _).alloc (by simp; omega) _).alloc (by simp; omega) _).alloc (by simp; omega) _
  refine wpIn_rangeFunc_ownF (α := Unit) hro hn1 (gf := 165) (lb := #[.pointer (some ⟨w.heap.size + 1 + 1 + 1, 0, none⟩), .pointer (some ⟨w.heap.size + 1 + 1 + 1 + 1, 0, none⟩)]) rfl h2 (enters_of Tryz.func165 (by kernel_rfl) rfl)
    (chunk1_stops F (n - 1) h2 hro _ _ _ (cell_alloc_l _ c5.1) (by simp)) belowK_t (belowK_b (Nat.le_refl _)) (Below.refl _ _) (fun _ => rfl)
    (fun pre W => ((W.cell? ⟨w.heap.size, 0, none⟩ = some (.slice none 0 0) ∧ W.frozen? ⟨w.heap.size, 0, none⟩ = false) ∧ (W.cell? ⟨w.heap.size + 1, 0, none⟩ = some (.bool false) ∧ W.frozen? ⟨w.heap.size + 1, 0, none⟩ = false) ∧ W.cell? ⟨w.heap.size + 1 + 1, 0, none⟩ = some (.slice none 0 0)) ∧ Below w.heap.size w W)
    (fun _ _ _ => False)
    (OwnFrom.and (Own.from (fun s A B row hs hg hr => ⟨⟨cell_kept hs.1.1 hg hr, (frozen_kept hs.1.1 hg hr).trans hs.1.2⟩, ⟨cell_kept hs.2.1.1 hg hr, (frozen_kept hs.2.1.1 hg hr).trans hs.2.1.2⟩, cell_kept hs.2.2 hg hr⟩) _) (ownFrom_below (Nat.le_refl _) (by simp; omega)))
    (fun _ _ _ _ _ hs _ _ => hs)
    ⟨⟨⟨cell_alloc_l _ (cell_alloc_l _ (cell_alloc_l _ (cell_alloc_l _ c2.1))), frozen_alloc_l _ (cell_alloc_l _ (cell_alloc_l _ (cell_alloc_l _ c2.1))) (frozen_alloc_l _ (cell_alloc_l _ (cell_alloc_l _ c2.1)) (frozen_alloc_l _ (cell_alloc_l _ c2.1) (frozen_alloc_l _ c2.1 c2.2)))⟩,
      ⟨cell_alloc_l _ (cell_alloc_l _ (cell_alloc_l _ c3.1)), frozen_alloc_l _ (cell_alloc_l _ (cell_alloc_l _ c3.1)) (frozen_alloc_l _ (cell_alloc_l _ c3.1) (frozen_alloc_l _ c3.1 c3.2))⟩, cell_alloc_l _ (cell_alloc_l _ c4.1)⟩, hB0⟩
    (fun x => { tmps := #[.slice none 0 0, undef, .pointer (some ⟨w.heap.size, 0, none⟩), .pointer (some ⟨w.heap.size + 1, 0, none⟩), .pointer (some ⟨w.heap.size + 1 + 1, 0, none⟩), .slice none 0 0, .slice none 0 0,
      .func (.func 165) #[] #[.pointer (some ⟨w.heap.size + 1 + 1 + 1, 0, none⟩), .pointer (some ⟨w.heap.size + 1 + 1 + 1 + 1, 0, none⟩)], .slice none 0 0, undef, undef, undef, undef, undef, undef, undef, undef, undef, undef, undef, undef, undef, undef, undef, undef, undef, undef, undef], defers := [] }) ?assign ?body ?done ?stop
  case assign =>
    intro l x W K hK
    gi_wp2
    exact hK
  case body =>
    intro l pre x W _ hlt
    exact absurd hlt (Nat.not_lt_zero _)
  case done =>
    rintro D ys W hD rfl ⟨⟨⟨h2c, h2f⟩, ⟨h3c, h3f⟩, h4c⟩, hB⟩ hK
    have hne : w.heap.size ≠ w.heap.size + 1 := by omega
    gi_wp2
    have hK' : ((W.setCell ⟨w.heap.size, 0, none⟩ (.slice none 0 0)).setCell ⟨w.heap.size + 1, 0, none⟩ (.bool false)).drew.heap[D]? = some (.deferred (some [])) := (KeepsOthers.setCell (W.setCell ⟨w.heap.size, 0, none⟩ (.slice none 0 0)) ⟨w.heap.size + 1, 0, none⟩ (.bool false)).same D _ ((KeepsOthers.setCell W ⟨w.heap.size, 0, none⟩ (.slice none 0 0)).same D _ hK rfl) rfl
    have k2 : ((W.setCell ⟨w.heap.size, 0, none⟩ (.slice none 0 0)).setCell ⟨w.heap.size + 1, 0, none⟩ (.bool false)).drew.cell? ⟨w.heap.size, 0, none⟩ = some (.slice none 0 0) := by
      show ((W.setCell ⟨w.heap.size, 0, none⟩ (.slice none 0 0)).setCell ⟨w.heap.size + 1, 0, none⟩ (.bool false)).cell? ⟨w.heap.size, 0, none⟩ = _
      rw [World.cell?_setCell_other (h := by intro e; simp at e)]
      exact World.cell?_setCell_same' _ _ _ (by rw [h2c]; rfl)
    have k3 : ((W.setCell ⟨w.heap.size, 0, none⟩ (.slice none 0 0)).setCell ⟨w.heap.size + 1, 0, none⟩ (.bool false)).drew.cell? ⟨w.heap.size + 1, 0, none⟩ = some (.bool false) := by
      show ((W.setCell ⟨w.heap.size, 0, none⟩ (.slice none 0 0)).setCell ⟨w.heap.size + 1, 0, none⟩ (.bool false)).cell? ⟨w.heap.size + 1, 0, none⟩ = _
      refine World.cell?_setCell_same' _ _ _ ?_
      rw [World.cell?_setCell_other (h := by intro e; simp at e), h3c]; rfl
    have hB2 : Below w.heap.size w ((W.setCell ⟨w.heap.size, 0, none⟩ (.slice none 0 0)).setCell ⟨w.heap.size + 1, 0, none⟩ (.bool false)).drew := ((hB.setCell (p := ⟨w.heap.size, 0, none⟩) (Nat.le_refl _) _).setCell (p := ⟨w.heap.size + 1, 0, none⟩) (by simp) _).drew
    all_goals gi_region
    all_goals
      gi_wp2
      refine ⟨by simp, .inl ⟨_, _, rfl, run_takeDeferred hK', ?_⟩⟩
      have q2 := cell_kept k2 (grownBy_putObj' _ D (.deferred none)) (fun r e => by cases e; exact ⟨_, hK', rfl⟩)
      have q3 := cell_kept k3 (grownBy_putObj' _ D (.deferred none)) (fun r e => by cases e; exact ⟨_, hK', rfl⟩)
      refine ⟨.tuple #[.slice none 0 0, .bool false], ?_, rfl, hB2.trans (belowK_b (w := w) (Nat.le_refl _) _ D _ _ (by simp at hD; omega) hK' rfl rfl)⟩
      simp [results, Tryz.f90, go_sem, q2, q3]
  case stop =>
    rintro D c pre W _ _ h _
    exact h.elim

theorem pairs_nil (w : World) : Calls Tryz.prog 90 #[.slice none 0 0] w fun e W' => e = .returned (.tuple #[.slice none 0 0, .bool false]) ∧ Below w.heap.size w W' :=
  callsIn_wide.1 (pairs_in Fence.wide 3 trivial trivial trivial rfl (Nat.le_refl _) w)
end Go.Proofs.YtdkindollljlnabGreatDoor

namespace Go.Proofs.YtdkindollljlnabGreatDoor
open Go Go.RowKit
variable [Known]

/-- marks.pairs at a nil slice. -/
noncomputable def pairsOut (args : List SV) (σ : SH) : Option Outs := match args with
  | [.nils] => some [(.tuple [.nils, .bool false], σ)]
  | _ => none
theorem pairsOut_ok (b : Base) {args : List SV} {σ : SH} {outs : Outs} {env : Env} {w : World} {vs : List Value} (h : pairsOut args σ = some outs) (hr : Rel Tryz.prog b env σ w) (ha : denL env args = some vs) :
    Calls Tryz.prog 90 vs.toArray w (Comes1 Tryz.prog b env outs) := by
  unfold pairsOut at h
  split at h
  · cases h
    obtain rfl : vs = [.slice none 0 0] := by
      obtain ⟨v, us, h1, h2, rfl⟩ := denL_cons ha
      simp only [den, Option.some.injEq] at h1; subst h1
      simp only [denL] at h2; cases h2; rfl
    refine (pairs_nil w).mono ?_
    rintro e w' ⟨rfl, hb⟩
    exact ⟨_, List.mem_singleton.2 rfl, env, _, rfl, Env.le_refl _, hr.world hb, rfl⟩
  · cases h
end Go.Proofs.YtdkindollljlnabGreatDoor

namespace Go.Proofs.YtdkindollljlnabGreatDoor
open Go Go.RowKit
variable [Known]

variable {P : Program}

mutual
/-- A value without names. -/
def plainS : SV → Bool
  | .int _ _ | .bool _ | .str _ | .nilp | .nils | .nilm | .nilf | .nili | .undef => true
  | .agg l => plainL l
  | .tuple l => plainL l
  | .iface _ v => plainS v
  | _ => false
def plainL : List SV → Bool
  | [] => true
  | x :: r => plainS x && plainL r
end
mutual
theorem den_plain (e e' : Env) : ∀ (s : SV), plainS s = true → den e s = den e' s
  | .int _ _, _ | .bool _, _ | .str _, _ | .nilp, _ | .nils, _ | .nilm, _ | .nilf, _ | .nili, _ | .undef, _ => by simp only [den]
  | .agg l, h => by simp only [plainS] at h; simp only [den, denL_plain e e' l h]
  | .tuple l, h => by simp only [plainS] at h; simp only [den, denL_plain e e' l h]
  | .iface t v, h => by simp only [plainS] at h; simp only [den, den_plain e e' v h]
  | .ptr _ _, h | .gptr _ _, h | .slice _ _ _ _, h | .map _, h | .fn _ _ _, h | .opq _, h | .zslice _ _ _ _ _, h | .num _ _ _, h => by simp [plainS] at h
theorem denL_plain (e e' : Env) : ∀ (l : List SV), plainL l = true → denL e l = denL e' l
  | [], _ => by simp only [denL]
  | x :: r, h => by
    simp only [plainL, Bool.and_eq_true] at h
    simp only [denL, den_plain e e' x h.1, denL_plain e e' r h.2]
end

theorem ORel.plain {env env' : Env} {w : World} {b c : Nat} {l : List SV} {e : TypeId} {x : Bool} (h : ORel P env w b c (.cells l e x)) (hp : plainL l = true) : ORel P env' w b c (.cells l e x) := by
  obtain ⟨cur, t, fr, vs, h1, h2, h3, h4⟩ := h
  exact ⟨cur, t, fr, vs, h1, h2, (denL_plain env' env l hp).trans h3, h4⟩

theorem relAt (given : Nat → Value) {env : Env} {w : World} {b c : Nat} (hok : Okay P (baseAt w b) given) {l : List SV} {e : TypeId} {x : Bool} (hp : plainL l = true) (h : ORel P env w b c (.cells l e x)) :
    Rel P (baseAt w b) ((env0 given).push 0 b c) (sh0.push (.cells l e x)) w := by
  have hget : ∀ n o, (sh0.push (.cells l e x)).get n = some o → n = 0 ∧ o = .cells l e x := fun n o h => by
    rcases SH.get_push h with ⟨h1, h2⟩ | ⟨_, h⟩
    · exact ⟨h1, h2⟩
    · have := (SH.get_lt h).2
      simp only [sh0, Tr.get_leaf] at this
      cases this
  refine ⟨hok, ⟨rfl, rfl, rfl, Nat.le_refl _, fun k hk => ⟨hk.1, rfl⟩⟩, rfl, fun n hn => ?_, fun n o h' => ?_, fun n m o o' x y hne h h' => ?_⟩
  · have hn : 0 + 1 ≤ n := hn
    rw [Env.push_ne _ _ _ (by omega)]; rfl
  · obtain ⟨rfl, rfl⟩ := hget n o h'
    exact ⟨b, c, Env.new _ _ _ _, fun hk => hk.2 rfl, h.plain hp⟩
  · exact absurd ((hget n o h).1.trans (hget m o' h').1.symm) hne

/-- The frame: a closed call over one block that ends with that block as it was. -/
theorem frame_call (hm : P.follows .mixedOrders = true) {summ : CallF} (hsumm : ∀ b, CallSound P b summ) {d : Nat} {f : FuncId} {a : SV} {off len : Nat} {cap : SCap} {l : List SV} {e : TypeId} {x : Bool} {v : SV} {σf : SH}
    (hrun : exec P summ d f [a, .slice 0 off len cap] (sh0.push (.cells l e x)) = some [(v, σf)]) (hf : σf.get 0 = some (.cells l e x)) (ha : plainS a = true) (hl : plainL l = true) (hv : plainS v = true)
    {w0 : Base} {env : Env} {σ : SH} {w : World} {n : Nat} {vs : List Value} (ho : env.ones) (hr : Rel P w0 env σ w) (hn : σ.get n = some (.cells l e x)) (hd : denL env [a, .slice n off len cap] = some vs) :
    Calls P f vs.toArray w (Comes1 P w0 env [(v, σ)]) := by
  obtain ⟨b, c, hb, hnk, hO⟩ := hr.obj n _ hn
  have hblt : b < w.heap.size := hO.lt
  have hd1 : denL ((env0 env.given).push 0 b c) [a, .slice 0 off len cap] = some vs := by
    have e1 : ((env0 env.given).push 0 b c).blocks 0 = some (b, c) := Env.new _ _ _ _
    simp only [denL, den, e1] 
    simp only [denL, den, hb] at hd
    rw [den_plain _ env a ha]
    exact hd
  refine (exec_ok hm hsumm d (baseAt w b) f _ _ _ ((env0 env.given).push 0 b c) w vs hrun (fun i => ho i) (relAt env.given (okayAt hr.maxLen (fun g hg (e : g = b) => hnk (by rw [← e]; exact hr.okay.2.1 g hg)) (Known.mono _ _ _ _ _ (fun k hk => ⟨⟨Nat.lt_of_lt_of_le (hr.below.block k hk).1 hr.below.size, fun e => hnk (e ▸ hk)⟩, (hr.below.block k hk).2⟩) hr.okay.2.2)) hl hO) hd1).mono ?_
  rintro en w' ⟨o, hmem, env', u, rfl, hle, hr', hdu⟩
  rw [List.mem_singleton.1 hmem] at hr' hdu
  have hb' : env'.blocks 0 = some (b, c) := hle.some 0 _ (Env.new _ _ _ _)
  obtain ⟨b2, c2, hb2, _, hO2⟩ := hr'.obj 0 _ hf
  rw [hb'] at hb2; cases hb2
  refine ⟨_, List.mem_singleton.2 rfl, env, u, rfl, Env.le_refl _, ?_, (den_plain env env' v hv).trans hdu⟩
  have hsame : ∀ k, k < w.heap.size → k ≠ b → w'.heap[k]? = w.heap[k]? := fun k h1 h2 => (hr'.below.block k ⟨h1, h2⟩).2
  refine ⟨hr.okay, ⟨hr'.below.os.trans hr.below.os, hr'.below.tape.trans hr.below.tape, hr'.below.output.trans hr.below.output, Nat.le_trans hr.below.size hr'.below.size, fun k hk => ?_⟩, hr.nx, hr.fresh, fun m o hm' => ?_, hr.apart⟩
  · obtain ⟨h1, h2⟩ := hr.below.block k hk
    exact ⟨h1, (hsame k (Nat.lt_of_lt_of_le h1 hr.below.size) (fun e => hnk (e ▸ hk))).trans h2⟩
  · obtain ⟨b3, c3, h1, h2, h3⟩ := hr.obj m o hm'
    by_cases hmn : m = n
    · subst hmn
      rw [hn] at hm'; cases hm'
      rw [hb] at h1; cases h1
      exact ⟨b, c, hb, hnk, hO2.plain hl⟩
    · exact ⟨b3, c3, h1, h2, h3.ext ⟨rfl, fun _ _ h => h⟩ (hsame b3 h3.lt (fun e => hr.apart m n _ _ _ _ hmn hm' hn h1 hb e))⟩

/-- The check that a closed run leaves its one block as it was. -/
noncomputable def frameChk (v : SV) (l : List SV) (e : TypeId) (x : Bool) (r : Option Outs) : Bool := match r with
  | some [(y, σ)] => eqS y v && (match σ.get 0 with
    | some (.cells l' e' x') => eqSL l' l && Nat.beq e' e && (x' == x)
    | _ => false)
  | _ => false
theorem frameChk_ok {v : SV} {l : List SV} {e : TypeId} {x : Bool} {r : Option Outs} (h : frameChk v l e x r = true) : ∃ σf, r = some [(v, σf)] ∧ σf.get 0 = some (.cells l e x) := by
  unfold frameChk at h
  split at h
  · rename_i y σ
    rw [Bool.and_eq_true] at h
    obtain ⟨h1, h2⟩ := h
    split at h2
    · rename_i l' e' x' hg
      simp only [Bool.and_eq_true, beq_iff_eq] at h2
      obtain ⟨⟨h3, h4⟩, rfl⟩ := h2
      exact ⟨σ, by rw [eqS_ok _ _ h1], by rw [hg, eqSL_ok _ _ h3, Nat.eq_of_beq_eq_true h4]⟩
    · cases h2
  · cases h
/-- The summary that such a run gives. -/
noncomputable def frameOut (a : SV) (off len : Nat) (cap : SCap) (l : List SV) (e : TypeId) (x : Bool) (v : SV) (args : List SV) (σ : SH) : Option Outs := match args with
  | [a', .slice n off' len' cap'] => @Bool.rec (fun _ => Option Outs) none (match σ.get n with
    | some (.cells l' e' x') => @Bool.rec (fun _ => Option Outs) none (some [(v, σ)]) (eqSL l' l && Nat.beq e' e && (x' == x))
    | _ => none) (eqS a' a && Nat.beq off' off && Nat.beq len' len && eqCap cap' cap)
  | _ => none
theorem frameOut_ok (hm : P.follows .mixedOrders = true) {summ : CallF} (hsumm : ∀ b, CallSound P b summ) {d : Nat} {f : FuncId} {a : SV} {off len : Nat} {cap : SCap} {l : List SV} {e : TypeId} {x : Bool} {v : SV}
    (hrun : frameChk v l e x (exec P summ d f [a, .slice 0 off len cap] (sh0.push (.cells l e x))) = true) (ha : plainS a = true) (hl : plainL l = true) (hv : plainS v = true)
    {w0 : Base} {env : Env} {σ : SH} {w : World} {args : List SV} {outs : Outs} {vs : List Value} (h : frameOut a off len cap l e x v args σ = some outs) (ho : env.ones) (hr : Rel P w0 env σ w) (hd : denL env args = some vs) :
    Calls P f vs.toArray w (Comes1 P w0 env outs) := by
  obtain ⟨σf, h1, h2⟩ := frameChk_ok hrun
  unfold frameOut at h
  split at h
  · rename_i a' n off' len' cap'
    cases hc : (eqS a' a && Nat.beq off' off && Nat.beq len' len && eqCap cap' cap) with
    | false => rw [hc] at h; exact absurd (show (none : Option Outs) = some outs from h) (by simp)
    | true =>
      rw [hc] at h
      simp only [Bool.and_eq_true] at hc
      obtain ⟨⟨⟨c1, c2⟩, c3⟩, c4⟩ := hc
      obtain rfl := eqS_ok _ _ c1
      obtain rfl := Nat.eq_of_beq_eq_true c2
      obtain rfl := Nat.eq_of_beq_eq_true c3
      obtain rfl := eqCap_ok c4
      replace h : (match σ.get n with
        | some (.cells l' e' x') => @Bool.rec (fun _ => Option Outs) none (some [(v, σ)]) (eqSL l' l && Nat.beq e' e && (x' == x))
        | _ => none) = some outs := h
      split at h
      · rename_i l' e' x' hg
        cases hc : (eqSL l' l && Nat.beq e' e && (x' == x)) with
        | false => rw [hc] at h; exact absurd (show (none : Option Outs) = some outs from h) (by simp)
        | true =>
          rw [hc] at h
          replace h : some [(v, σ)] = some outs := h
          cases h
          simp only [Bool.and_eq_true, beq_iff_eq] at hc
          obtain ⟨⟨d1, d2⟩, rfl⟩ := hc
          obtain rfl := eqSL_ok _ _ d1
          obtain rfl := Nat.eq_of_beq_eq_true d2
          exact frame_call hm hsumm h1 h2 ha hl hv ho hr hg hd
      · cases h
  · cases h
end Go.Proofs.YtdkindollljlnabGreatDoor

namespace Go.Proofs.YtdkindollljlnabGreatDoor
open Go Go.RowKit
variable [Known]

section
variable {P : Program} {w0 : Base} {env : Env} {σ : SH} {w : World}
/-- A block that a call has made. -/
theorem Rel.adopt {w' : World} {so : SO} {g c : Nat} (h : Rel P w0 env σ w) (hb : Below w.heap.size w w') (hg : w.heap.size ≤ g) (ho : ORel P (env.push σ.next g c) w' g c so) : Rel P w0 (env.push σ.next g c) (σ.push so) w' := by
  have hnew := Env.new env σ.next g c
  have hle := h.le_push g c
  have h' := h.world hb
  have key : ∀ n y, (σ.push so).get n = some y → (n = σ.next ∧ y = so) ∨ (n ≠ σ.next ∧ σ.get n = some y) := fun n y hy => SH.get_push hy
  refine ⟨h.okay, h'.below, rfl, fun n hn => ?_, fun n y hy => ?_, fun n m y z x1 y1 hne hy hz hx1 hy1 => ?_⟩
  · have hn : σ.next + 1 ≤ n := hn
    rw [Env.push_ne _ _ _ (by omega)]; exact h.fresh n (by omega)
  · rcases key n y hy with ⟨rfl, rfl⟩ | ⟨hn, hy⟩
    · refine ⟨_, _, hnew, fun hk => ?_, ho⟩
      have := (h.below.block _ hk).1
      have := h.below.size
      omega
    · obtain ⟨b, c', h1, h2, h3⟩ := h'.obj n y hy
      exact ⟨b, c', hle.some n _ h1, h2, h3.mono hle rfl⟩
  · have old : ∀ k x, k ≠ σ.next → (∃ u, σ.get k = some u) → (env.push σ.next g c).blocks k = some x → x.1 < w.heap.size ∧ env.blocks k = some x := fun k x hk ⟨u, hu⟩ hx => by
      obtain ⟨b, c', h1, h2, h3⟩ := h.obj k u hu
      rw [Env.push_ne _ _ _ hk] at hx
      rw [hx] at h1; cases h1
      exact ⟨h3.lt, hx⟩
    rcases key n y hy with ⟨rfl, rfl⟩ | ⟨hn, hy'⟩ <;> rcases key m z hz with ⟨rfl, rfl⟩ | ⟨hm, hz'⟩
    · exact absurd rfl hne
    · have := (old m y1 hm ⟨_, hz'⟩ hy1).1
      rw [hnew] at hx1; cases hx1; simp only; omega
    · have := (old n x1 hn ⟨_, hy'⟩ hx1).1
      rw [hnew] at hy1; cases hy1; simp only; omega
    · exact h.apart n m y z x1 y1 hne hy' hz' (old n x1 hn ⟨_, hy'⟩ hx1).2 (old m y1 hm ⟨_, hz'⟩ hy1).2
end

end Go.Proofs.YtdkindollljlnabGreatDoor

namespace Go.Proofs.YtdkindollljlnabGreatDoor
open Go Go.RowKit
variable [Known]

/-- A map told anew, with the same entries. -/
noncomputable def cloneOut (args : List SV) (σ : SH) : Option Outs := match args with
  | [.map n] => match σ.get n with
    | some (.map es) => some [(.map σ.next, σ.push (.map es))]
    | some (.dmap es) => some [(.map σ.next, σ.push (.dmap es))]
    | _ => none
  | _ => none
theorem cloneOut_ok {P : Program} {k : FuncId} (hc : ∀ (b : Nat) (es : Array MapEntry) (clock : Nat) (w : World), w.heap[b]? = some (.map es clock) → Calls P k #[.map (some b)] w fun e w' => e = .returned (.map (some w.heap.size)) ∧ w' = w.alloc (.map es clock)) (b : Base) {args : List SV} {σ : SH} {outs : Outs} {env : Env} {w : World} {vs : List Value}
    (h : cloneOut args σ = some outs) (hr : Rel P b env σ w) (ha : denL env args = some vs) : Calls P k vs.toArray w (Comes1 P b env outs) := by
  unfold cloneOut at h
  split at h
  · rename_i n
    obtain ⟨v, us, h1, h2, rfl⟩ := denL_cons ha
    simp only [denL] at h2; cases h2
    obtain ⟨bb, cc, he, em⟩ := den_map h1
    subst em
    split at h
    · rename_i es hn; cases h
      obtain ⟨b', c', e1, hb, ents, clock, ks, vs, g1, g2, g3, g4⟩ := hr.obj n _ hn
      rw [he] at e1; cases e1
      refine (hc bb ents clock w g1).mono ?_
      rintro e w' ⟨rfl, rfl⟩
      have hle := hr.le_push w.heap.size 0
      have hw : Below w.heap.size w (w.alloc (.map ents clock)) := (Below.refl _ w).alloc (Nat.le_refl _) _
      refine ⟨_, List.mem_singleton.2 rfl, env.push σ.next w.heap.size 0, _, rfl, hle, hr.adopt hw (Nat.le_refl _) ?_, ?_⟩
      · exact ⟨ents, clock, ks, vs, (by show (w.heap.push _)[w.heap.size]? = _; simp), denL_mono hle _ _ g2, denL_mono hle _ _ g3, g4⟩
      · simp only [den, Env.new]
    · rename_i es hn; cases h
      obtain ⟨b', c', e1, hb, ents, clock, ks, vs, g1, g2, g3, g4⟩ := hr.obj n _ hn
      rw [he] at e1; cases e1
      refine (hc bb ents clock w g1).mono ?_
      rintro e w' ⟨rfl, rfl⟩
      have hle := hr.le_push w.heap.size 0
      have hw : Below w.heap.size w (w.alloc (.map ents clock)) := (Below.refl _ w).alloc (Nat.le_refl _) _
      refine ⟨_, List.mem_singleton.2 rfl, env.push σ.next w.heap.size 0, _, rfl, hle, hr.adopt hw (Nat.le_refl _) ?_, ?_⟩
      · exact ⟨ents, clock, ks, vs, (by show (w.heap.push _)[w.heap.size]? = _; simp), denL_mono hle _ _ g2, denL_mono hle _ _ g3, g4⟩
      · simp only [den, Env.new]
    · cases h
  · cases h

set_option maxRecDepth 100000 in
set_option maxHeartbeats 2000000 in
theorem cloneO_any (b : Nat) (es : Array MapEntry) (clock : Nat) (w : World) (hb : w.heap[b]? = some (.map es clock)) :
    Calls Tryz.prog 78 #[.map (some b)] w fun e w' => e = .returned (.map (some w.heap.size)) ∧ w' = w.alloc (.map es clock) := by
  have hq := fun w => run_eql_map_nil_sl (P := Tryz.prog) w 92 _ _ (some b) Tryz.underlying92
  go_enter Tryz.func78, Tryz.ntmps78
  go_wp2
  rw [run_callFunc_extern Tryz.func113 (by kernel_rfl) (by kernel_rfl) (by kernel_rfl) (e := Extern.MapsClone.clone) (by kernel_rfl), run_maps_clone_sl w 92 hb]
  simp only [Result.andThen]
  rw [Oper.upon_value]
  go_wp2
  rw [run_typeAssert_map_sl _ 92 _ _ _ _ Tryz.underlying92]
  simp only [Result.andThen]
  rw [Oper.upon_value]
  go_wp2
  go_ret
  exact ⟨rfl, rfl⟩
set_option maxRecDepth 100000 in
set_option maxHeartbeats 2000000 in
theorem cloneK_any (b : Nat) (es : Array MapEntry) (clock : Nat) (w : World) (hb : w.heap[b]? = some (.map es clock)) :
    Calls Tryz.prog 75 #[.map (some b)] w fun e w' => e = .returned (.map (some w.heap.size)) ∧ w' = w.alloc (.map es clock) := by
  have hq := fun w => run_eql_map_nil_sl (P := Tryz.prog) w 84 _ _ (some b) Tryz.underlying84
  go_enter Tryz.func75, Tryz.ntmps75
  go_wp2
  rw [run_callFunc_extern Tryz.func113 (by kernel_rfl) (by kernel_rfl) (by kernel_rfl) (e := Extern.MapsClone.clone) (by kernel_rfl), run_maps_clone_sl w 84 hb]
  simp only [Result.andThen]
  rw [Oper.upon_value]
  go_wp2
  rw [run_typeAssert_map_sl _ 84 _ _ _ _ Tryz.underlying84]
  simp only [Result.andThen]
  rw [Oper.upon_value]
  go_wp2
  go_ret
  exact ⟨rfl, rfl⟩
set_option maxRecDepth 100000 in
set_option maxHeartbeats 2000000 in
theorem cloneS_any (b : Nat) (es : Array MapEntry) (clock : Nat) (w : World) (hb : w.heap[b]? = some (.map es clock)) :
    Calls Tryz.prog 77 #[.map (some b)] w fun e w' => e = .returned (.map (some w.heap.size)) ∧ w' = w.alloc (.map es clock) := by
  have hq := fun w => run_eql_map_nil_sl (P := Tryz.prog) w 48 _ _ (some b) Tryz.underlying48
  go_enter Tryz.func77, Tryz.ntmps77
  go_wp2
  rw [run_callFunc_extern Tryz.func113 (by kernel_rfl) (by kernel_rfl) (by kernel_rfl) (e := Extern.MapsClone.clone) (by kernel_rfl), run_maps_clone_sl w 48 hb]
  simp only [Result.andThen]
  rw [Oper.upon_value]
  go_wp2
  rw [run_typeAssert_map_sl _ 48 _ _ _ _ Tryz.underlying48]
  simp only [Result.andThen]
  rw [Oper.upon_value]
  go_wp2
  go_ret
  exact ⟨rfl, rfl⟩
end Go.Proofs.YtdkindollljlnabGreatDoor

namespace Go.Proofs.YtdkindollljlnabGreatDoor
open Go Go.RowKit Go.Shelf Go.Maps

attribute [local go_sem] Oper.semAt_some


def apAssign : Code := (Code.region 2 #[{ dst := some 5, op := Op.alloc 23, type := 0, pos := "iter.go:51", after := #[], guard := none }, { dst := none, op := Op.store 23 (Operand.tmp 5) (Operand.tmp 7), type := 0, pos := "iter.go:51", after := #[{ on := 0, ground := Ground.data }, { on := 0, ground := Ground.phase }], guard := none }] false)
def apBody : Code := (Code.block 1 (Code.region 3 #[{ dst := some 8, op := Op.load 45 (Operand.tmp 2), type := 45, pos := "iter.go:52", after := #[], guard := none }, { dst := some 9, op := Op.load 23 (Operand.tmp 5), type := 23, pos := "iter.go:52", after := #[], guard := none }, { dst := some 10, op := Op.buildSlice 45 1 #[(0, Operand.tmp 9)], type := 45, pos := "iter.go:52", after := #[{ on := 1, ground := Ground.data }], guard := none }, { dst := some 11, op := Op.call { callee := Callee.builtin Builtin.append, args := #[Operand.tmp 8, Operand.tmp 10], argTypes := #[45, 45] }, type := 45, pos := "iter.go:52", after := #[{ on := 0, ground := Ground.data }, { on := 2, ground := Ground.data }], guard := none }, { dst := none, op := Op.store 45 (Operand.tmp 2) (Operand.tmp 11), type := 0, pos := "iter.go:52", after := #[{ on := 3, ground := Ground.data }, { on := 3, ground := Ground.chain }, { on := 0, ground := Ground.phase }, { on := 1, ground := Ground.phase }, { on := 2, ground := Ground.phase }, { on := 3, ground := Ground.phase }], guard := none }] false))
/-- The loop's record. -/
def apRec (fn : FuncId) (sv : Value) (Bs D : Nat) (st : LoopState) (pend : Option Code) : Loop :=
  { state := st, pending := pend, fn, tmps := #[.slice none 0 0, sv, .pointer (some ⟨Bs, 0, none⟩), undef, .slice none 0 0, undef, sv, undef, undef, undef, undef, undef, undef], params := #[7], assign := apAssign, body := apBody, defers := D }

/-- A key's cells. -/
def keyCells (k : IdK) : List Value := k.kc.toList
/-- Between two rounds: the box holds a slice that owns what has come so far. -/
structure ApAt (w0 : World) (fn : FuncId) (sv : Value) (Bs l D : Nat) (ss : List IdK) (W : World) : Prop where
  box : ∃ v, W.heap[Bs]? = some (.cells #[v] 45 (0, 0)) ∧ W.ownsRow w0.heap.size 23 20 v ss.length (ss.flatMap keyCells) ∧ (v = .slice none 0 0 ↔ ss = [])
  L : W.heap[l]? = some (.loop (apRec fn sv Bs D .ready none))
  K : W.heap[D]? = some (.deferred (some []))
  below : Below w0.heap.size w0 W

theorem ownsRow_abides_q {W W' : World} {row : Option Nat} {base : Nat} {e : TypeId} {size : Nat} {v : Value} {k : Nat} {xs : List Value} (h : W.ownsRow base e size v k xs) (hg : W.grownBy W' row)
    (hrow : ∀ r, row = some r → ∃ o : Obj, W.heap[r]? = some o ∧ o.isWalk = true) : W'.ownsRow base e size v k xs := by
  refine h.kept hg ?_
  rcases h.2 with ⟨rfl, _⟩ | ⟨g, cap, cur, rfl, _, hgb, _⟩
  · exact .inl rfl
  · refine .inr fun e' => ?_
    obtain ⟨o, ho, hw⟩ := hrow g (by simpa [Value.ownBlock] using e'.symm)
    rw [hgb] at ho; cases ho; cases hw

theorem ap_abides (w0 : World) (fn : FuncId) (sv : Value) (Bs l D B : Nat) (hB : w0.heap.size ≤ B) : AbidesFrom B (ApAt w0 fn sv Bs l D) := fun s W W' row h hg hrow => by
  have hrow' : ∀ r, row = some r → ∃ o : Obj, W.heap[r]? = some o ∧ o.isWalk = true := fun r e => (hrow r e).2
  obtain ⟨v, hv, hr, hn⟩ := h.box
  exact ⟨⟨v, (grownBy_keeps hg hrow' hv rfl).trans hv, ownsRow_abides_q hr hg hrow', hn⟩, (grownBy_keeps hg hrow' h.L rfl).trans h.L, (grownBy_keeps hg hrow' h.K rfl).trans h.K,
    h.below.grown hg h.below.size (fun k e => Nat.le_trans hB (hrow k e).1)⟩

theorem grownBy_setCell0_q (W : World) (b : Nat) (v : Value) : W.grownBy (W.setCell ⟨b, 0, none⟩ v) (some b) :=
  ⟨rfl, rfl, rfl, (KeepsWalks.setCell W _ v).size, fun k _ hk => Below.heap_setCell _ _ _ k (fun e => hk (by rw [e]))⟩
theorem ownsRow_ne_q {W : World} {base : Nat} {e : TypeId} {size : Nat} {v : Value} {k : Nat} {xs : List Value} (h : W.ownsRow base e size v k xs) {j : Nat} {o : Obj} (hj : W.heap[j]? = some o) (hno : ∀ cur, o ≠ .cells cur e (0, 0)) :
    v.ownBlock = none ∨ v.ownBlock ≠ some j := by
  rcases h.2 with ⟨rfl, _⟩ | ⟨g, cap, cur, rfl, _, hgb, _⟩
  · exact .inl rfl
  · refine .inr fun e' => ?_
    have : g = j := by simpa [Value.ownBlock] using e'
    subst this; rw [hgb] at hj; cases hj; exact hno cur rfl
theorem cell_of_box_q {W : World} {B : Nat} {v : Value} {t : TypeId} (h : W.heap[B]? = some (.cells #[v] t (0, 0))) : W.cell? ⟨B, 0, none⟩ = some v ∧ W.frozen? ⟨B, 0, none⟩ = false := by
  constructor <;> simp [World.cell?, World.frozen?, h]
theorem heap_setCell_box_q {W : World} {B : Nat} {v : Value} {t : TypeId} (v' : Value) (h : W.heap[B]? = some (.cells #[v] t (0, 0))) : (W.setCell ⟨B, 0, none⟩ v').heap[B]? = some (.cells #[v'] t (0, 0)) := by
  obtain ⟨hlt, hk⟩ := Array.getElem?_eq_some_iff.1 h
  show (W.heap.modify B _)[B]? = _
  rw [Array.getElem?_eq_getElem (by rw [Array.size_modify]; exact hlt), Array.getElem_modify_self, hk]
  rfl

theorem exec_load_at {w : World} {c : Array Value} {b : Nat} {p : Operand} {ρ : Operand → Value} (hc : c.size = 20) (hb : w.heap[b]? = some (.cells c 23 (0, 0)))
    (hp : ρ p = .pointer (some ⟨b, 0, none⟩)) (d : Option Tmp) (ty : TypeId) (pos : String) (af : Array Edge) :
    (execOp ρ ⟨d, .load 23 p, ty, pos, af, none⟩).run Tryz.prog w = .ok (.value (.agg c)) w := by
  have := run_loadVar_row (P := Tryz.prog) w _ 23 23 c (0, 0) _ hb Tryz.underlying23 rfl (infoIdSize hc)
  simp only [execOp, hp, Instr.loadAt, Instr.sureAddr, Sem.run_bind, Sem.run_pure, Result.andThen, this]
theorem ownsRow_not_walk_q {W : World} {base : Nat} {e : TypeId} {size : Nat} {v : Value} {k : Nat} {xs : List Value} (h : W.ownsRow base e size v k xs) : ∀ (j : Nat) (o : Obj), v.ownBlock = some j → W.heap[j]? = some o → o.isWalk = false := by
  intro j o hj ho
  rcases h.2 with ⟨rfl, _⟩ | ⟨g, cap, cur, rfl, _, hgb, _⟩
  · simp [Value.ownBlock] at hj
  · have : g = j := by simpa [Value.ownBlock] using hj
    subst this; rw [hgb] at ho; cases ho; rfl

set_option maxRecDepth 100000 in
set_option maxHeartbeats 2000000 in
theorem apYield (F : Fence) (m : Nat) (w0 : World) (fn : FuncId) (hfn : F.fn fn) (sv : Value) (Bs l D : Nat) (hBl : Bs ≠ l) (hDl : D ≠ l) (hDB : D ≠ Bs) (h0B : w0.heap.size ≤ Bs) (h0l : w0.heap.size ≤ l)
    (N : Nat) (hN : N ≤ maxLen) (hNb : N * 20 ≤ 140737488355328) (ss : List IdK) (x : IdK) (W : World) (h : ApAt w0 fn sv Bs l D ss W) (hlen : ss.length < N) :
    YieldAt F m Tryz.prog l #[.agg x.kc] W fun e W' => e = .returned (.bool true) ∧ ApAt w0 fn sv Bs l D (ss ++ [x]) W' ∧ KeepsWalks W W' := by
  obtain ⟨i0, hi, hz0, hz1, hz2⟩ := info_parts infoId
  obtain ⟨v, hv, hrow, _⟩ := h.box
  obtain ⟨kc, hkc, hk1⟩ := x
  have hkx : keyCells ⟨kc, hkc, hk1⟩ = kc.toList := rfl
  refine ⟨fn, #[.slice none 0 0, sv, .pointer (some ⟨Bs, 0, none⟩), undef, .slice none 0 0, undef, sv, .agg kc, undef, undef, undef, undef, undef], apAssign, apBody, by simpa [apRec] using run_yield (P := Tryz.prog) (args := #[.agg kc]) h.L rfl, roundIn_of_wpIn hfn ?_⟩
  have hl : l < W.heap.size := (Array.getElem?_eq_some_iff.1 h.L).1
  have hBlt : Bs < W.heap.size := (Array.getElem?_eq_some_iff.1 hv).1
  have hDlt : D < W.heap.size := (Array.getElem?_eq_some_iff.1 h.K).1
  obtain ⟨W2, hW2⟩ : ∃ W2, W.alloc (.cells kc 23) = W2 := ⟨_, rfl⟩
  have hk2 : KeepsWalks W W2 := by rw [← hW2]; exact KeepsWalks.alloc _ _
  have hv2 : W2.heap[Bs]? = some (.cells #[v] 45 (0, 0)) := by rw [← hW2]; exact (Below.heap_alloc _ _ Bs hBlt).trans hv
  have hK2 : W2.heap[D]? = some (.deferred (some [])) := by rw [← hW2]; exact (Below.heap_alloc _ _ D hDlt).trans h.K
  have hL2 : W2.heap[l]? = some (.loop (apRec fn sv Bs D .ready none)) := by rw [← hW2]; exact (Below.heap_alloc _ _ l hl).trans h.L
  have hrow2 : W2.ownsRow w0.heap.size 23 20 v ss.length (ss.flatMap keyCells) := by rw [← hW2]; exact hrow.alloc _
  have hb2 : Below w0.heap.size w0 W2 := by rw [← hW2]; exact h.below.alloc h.below.size _
  have hs2 : W2.heap.size = W.heap.size + 1 := by rw [← hW2]; simp
  have hr2 : W2.heap[W.heap.size]? = some (.cells kc 23 (0, 0)) := by rw [← hW2]; exact World.alloc_heap_new W _
  have hbr := run_beginRound (P := Tryz.prog) hL2 rfl
  obtain ⟨W3, hW3⟩ : ∃ W3, W2.putObj l (.loop { apRec fn sv Bs D .ready none with state := .busy }) = W3 := ⟨_, rfl⟩
  rw [hW3] at hbr
  have hg3 : W2.grownBy W3 (some l) := by rw [← hW3]; exact grownBy_putObj' _ _ _
  have hk3 : KeepsWalks W2 W3 := by rw [← hW3]; exact KeepsWalks.putObj _ hL2 rfl
  have hl2 : l < W2.heap.size := (Array.getElem?_eq_some_iff.1 hL2).1
  have hv3 : W3.heap[Bs]? = some (.cells #[v] 45 (0, 0)) := by rw [← hW3]; exact (World.putObj_heap_other hBl).trans hv2
  have hK3 : W3.heap[D]? = some (.deferred (some [])) := by rw [← hW3]; exact (World.putObj_heap_other hDl).trans hK2
  have hL3 : W3.heap[l]? = some (.loop { apRec fn sv Bs D .ready none with state := .busy }) := by rw [← hW3]; exact World.putObj_heap_same hl2
  have hr3 : W3.heap[W.heap.size]? = some (.cells kc 23 (0, 0)) := by rw [← hW3]; exact (World.putObj_heap_other (by omega)).trans hr2
  have hrow3 : W3.ownsRow w0.heap.size 23 20 v ss.length (ss.flatMap keyCells) := hrow2.kept hg3 (ownsRow_ne_q hrow2 hL2 (fun cur e => by cases e))
  have hb3 : Below w0.heap.size w0 W3 := hb2.grown hg3 hb2.size (fun k e => by cases e; exact h0l)
  have hs3 : W3.heap.size = W.heap.size + 1 := by rw [← hW3, ← hs2]; simp
  obtain ⟨hc3, hf3⟩ := cell_of_box_q hv3
  have ne_of : ∀ {j : Nat} {o : Obj}, W3.heap[j]? = some o → (∀ cur, o ≠ .cells cur 23 (0, 0)) → some j ≠ v.ownBlock := fun hj hno => by
    rcases ownsRow_ne_q hrow3 hj hno with e | e
    · rw [e]; simp
    · exact fun e' => e e'.symm
  have hnews : ∀ j u, kc.toList[j]? = some u → (W3.alloc (.cells kc 23)).cell? ((⟨W3.heap.size, 0, none⟩ : Addr).add j) = some u := fun j u hu => by
    have hadd : (⟨W3.heap.size, 0, none⟩ : Addr).add j = ⟨W3.heap.size, j, none⟩ := by unfold Addr.add; split <;> simp_all
    have hnew := World.alloc_heap_new W3 (.cells kc 23)
    rw [hadd, cell_of_row _ _ j kc 23 (0, 0) hnew]
    simpa using hu
  have hone : ∀ u ∈ kc.toList, u.oneCell' = true := fun u hu => by
    have := Array.all_eq_true'.1 hk1 u (Array.mem_toList_iff.1 hu)
    exact this
  unfold apAssign
  gi_wp2_with (first
    | (refine wpListIn_op_val rfl (fun c h => by cases h) (fun c h => by cases h) (exec_alloc_row (zeroId _) _ _ _ _ _) ?_)
    | (refine wpListIn_op_skip rfl (fun c h => by cases h) (fun c h => by cases h) (exec_store_row (z := Array.replicate 20 (.int .u8 0)) (c := kc) (infoIdSize hkc) (by rw [hkc, Array.size_replicate]) hk1 rfl rfl _ _ _ _) ?_; rw [hW2])
    | (rw [Oper.semAt_eq _ _ _ (fun c h => by cases h)]; go_simp; try go_bits))
  unfold apBody
  gi_wp2_with (first
    | (refine wpListIn_op_val rfl (fun c h => by cases h) (fun c h => by cases h) (exec_load_at hkc hr3 rfl _ _ _ _) ?_)
    | (refine wpListIn_op_val rfl (fun c h => by cases h) (fun c h => by cases h) (exec_buildSlice_id hkc rfl _ _ _ _) ?_)
    | (gi_at_builtin; refine wpListIn_append_own _ rfl _ _ 45 rfl w0.heap.size 23 i0 (.agg (Array.replicate 20 (.int .u8 0))) 20 20 Tryz.underlying45 hi hz0 hz1 hz2 rfl (by decide) v ss.length (ss.flatMap keyCells) rfl (hrow3.alloc _) ⟨W3.heap.size, 0, none⟩ 1 1 kc.toList rfl (by simp [hkc]) hnews hone (by omega) (by omega) (by have := hb3.size; simp; omega) ?_; intro v' w4 hown' hg4 hnil4
       have hv4 : w4.heap[Bs]? = some (.cells #[v] 45 (0, 0)) := (hg4.block Bs (by simp; omega) (ne_of hv3 (fun cur e => by cases e))).trans ((Below.heap_alloc _ _ Bs (by omega)).trans hv3)
       obtain ⟨hc4, hf4⟩ := cell_of_box_q hv4
       obtain ⟨g', cap', cur', rfl, hbase', hgb', hr1, hr2, hr3, hr4⟩ : ∃ g' cap' cur', v' = .slice (some ⟨g', 0, none⟩) (ss.length + 1) cap' ∧ w0.heap.size ≤ g' ∧ w4.heap[g']? = some (.cells cur' 23 (0, 0)) ∧ ss.length + 1 ≤ cap' ∧ cap' ≤ maxLen ∧ cur'.size = cap' * 20 ∧ cur'.toList.take ((ss.length + 1) * 20) = ss.flatMap keyCells ++ kc.toList := by
         rcases hown'.2 with ⟨_, h0⟩ | h'
         · exact absurd h0 (by omega)
         · exact h'
       go_frame)
    | (rw [Oper.semAt_eq _ _ _ (fun c h => by cases h)]; go_simp; try go_bits))
  have hg4' : (W3.alloc (.cells kc 23)).grownBy w4 v.ownBlock := hg4
  have hL4 : w4.heap[l]? = some (.loop { apRec fn sv Bs D .ready none with state := .busy }) := (hg4'.block l (by simp; omega) (ne_of hL3 (fun cur e => by cases e))).trans ((Below.heap_alloc _ _ l (by omega)).trans hL3)
  have hK4 : w4.heap[D]? = some (.deferred (some [])) := (hg4'.block D (by simp; omega) (ne_of hK3 (fun cur e => by cases e))).trans ((Below.heap_alloc _ _ D (by omega)).trans hK3)
  obtain ⟨w5, hw5⟩ : ∃ w5, w4.setCell ⟨Bs, 0, none⟩ (.slice (some ⟨g', 0, none⟩) (ss.length + 1) cap') = w5 := ⟨_, rfl⟩
  rw [hw5]
  have hg5 : w4.grownBy w5 (some Bs) := by rw [← hw5]; exact grownBy_setCell0_q _ _ _
  have hv5 : w5.heap[Bs]? = some (.cells #[.slice (some ⟨g', 0, none⟩) (ss.length + 1) cap'] 45 (0, 0)) := by rw [← hw5]; exact heap_setCell_box_q _ hv4
  have hL5 : w5.heap[l]? = some (.loop { apRec fn sv Bs D .ready none with state := .busy }) := (hg5.block l (Array.getElem?_eq_some_iff.1 hL4).1 (fun e => hBl (by cases e; rfl))).trans hL4
  have hK5 : w5.heap[D]? = some (.deferred (some [])) := (hg5.block D (Array.getElem?_eq_some_iff.1 hK4).1 (fun e => hDB (by cases e; rfl))).trans hK4
  have hrow5 := hown'.kept hg5 (ownsRow_ne_q hown' hv4 (fun cur e => by cases e))
  have hl5 : l < w5.heap.size := (Array.getElem?_eq_some_iff.1 hL5).1
  have hb4 : Below w0.heap.size w0 w4 := (hb3.alloc hb3.size _).grown hg4' (by have := hb3.size; simp; omega) (fun k e => (hrow3.lt k e).1)
  have hb5 : Below w0.heap.size w0 w5 := hb4.grown hg5 hb4.size (fun k e => by cases e; exact h0B)
  have hk5 : KeepsWalks W w5 := ((((hk2.trans hk3).trans (KeepsWalks.alloc _ _))).trans (KeepsWalks.of_grownBy hg4' (ownsRow_not_walk_q (hrow3.alloc _)))).trans (by rw [← hw5]; exact KeepsWalks.setCell _ _ _)
  clear hw5
  refine ⟨_, _, run_endRound none hL5, rfl, ⟨⟨_, (World.putObj_heap_other hBl).trans hv5, ?_, by simp⟩, World.putObj_heap_same hl5, (World.putObj_heap_other hDl).trans hK5, hb5.grown (grownBy_putObj' _ _ _) hb5.size (fun k e => by cases e; exact h0l)⟩, hk5.trans (KeepsWalks.putObj _ hL5 rfl)⟩
  have := hrow5.kept (grownBy_putObj' w5 l (.loop { { apRec fn sv Bs D .ready none with state := .busy } with state := if (none : Option Code).isNone then .ready else .done, pending := none })) (ownsRow_ne_q hrow5 hL5 (fun cur e => by cases e))
  rw [List.flatMap_append, List.length_append]
  simpa [hkx] using this
end Go.Proofs.YtdkindollljlnabGreatDoor

namespace Go.Proofs.YtdkindollljlnabGreatDoor
open Go Go.RowKit Go.Shelf Go.Maps

attribute [local go_sem] Oper.semAt_some

theorem infoStr : (Tryz.prog.info? 9).map (fun i => (i.zero, i.size, i.bytes)) = some (some (.string ⟨#[]⟩), 1, 16) := by kernel_rfl

def apAssignS : Code := (Code.region 2 #[{ dst := some 5, op := Op.assign (Operand.tmp 7), type := 9, pos := "iter.go:51", after := #[], guard := none }] false)
def apBodyS : Code := (Code.block 1 (Code.region 3 #[{ dst := some 8, op := Op.load 132 (Operand.tmp 2), type := 132, pos := "iter.go:52", after := #[], guard := none }, { dst := some 9, op := Op.move (Operand.tmp 5), type := 9, pos := "iter.go:52", after := #[], guard := none }, { dst := some 10, op := Op.buildSlice 132 1 #[(0, Operand.tmp 9)], type := 132, pos := "iter.go:52", after := #[{ on := 1, ground := Ground.data }], guard := none }, { dst := some 11, op := Op.call { callee := Callee.builtin Builtin.append, args := #[Operand.tmp 8, Operand.tmp 10], argTypes := #[132, 132] }, type := 132, pos := "iter.go:52", after := #[{ on := 0, ground := Ground.data }, { on := 2, ground := Ground.data }], guard := none }, { dst := none, op := Op.store 132 (Operand.tmp 2) (Operand.tmp 11), type := 0, pos := "iter.go:52", after := #[{ on := 3, ground := Ground.data }, { on := 3, ground := Ground.chain }, { on := 0, ground := Ground.phase }, { on := 1, ground := Ground.phase }, { on := 2, ground := Ground.phase }, { on := 3, ground := Ground.phase }], guard := none }] false))
def apRecS (fn : FuncId) (sv : Value) (Bs D : Nat) (st : LoopState) (pend : Option Code) : Loop :=
  { state := st, pending := pend, fn, tmps := #[.slice none 0 0, sv, .pointer (some ⟨Bs, 0, none⟩), undef, .slice none 0 0, undef, sv, undef, undef, undef, undef, undef, undef], params := #[7], assign := apAssignS, body := apBodyS, defers := D }

/-- Between two rounds: the box holds a slice that owns what has come so far. -/
structure ApAtS (w0 : World) (fn : FuncId) (sv : Value) (Bs l D : Nat) (ss : List ByteArray) (W : World) : Prop where
  box : ∃ v, W.heap[Bs]? = some (.cells #[v] 132 (0, 0)) ∧ W.ownsRow w0.heap.size 9 1 v ss.length (ss.map Value.string) ∧ (v = .slice none 0 0 ↔ ss = [])
  L : W.heap[l]? = some (.loop (apRecS fn sv Bs D .ready none))
  K : W.heap[D]? = some (.deferred (some []))
  below : Below w0.heap.size w0 W

theorem apS_abides (w0 : World) (fn : FuncId) (sv : Value) (Bs l D B : Nat) (hB : w0.heap.size ≤ B) : AbidesFrom B (ApAtS w0 fn sv Bs l D) := fun s W W' row h hg hrow => by
  have hrow' : ∀ r, row = some r → ∃ o : Obj, W.heap[r]? = some o ∧ o.isWalk = true := fun r e => (hrow r e).2
  obtain ⟨v, hv, hr, hn⟩ := h.box
  exact ⟨⟨v, (grownBy_keeps hg hrow' hv rfl).trans hv, ownsRow_abides_q hr hg hrow', hn⟩, (grownBy_keeps hg hrow' h.L rfl).trans h.L, (grownBy_keeps hg hrow' h.K rfl).trans h.K,
    h.below.grown hg h.below.size (fun k e => Nat.le_trans hB (hrow k e).1)⟩

set_option maxRecDepth 100000 in
set_option maxHeartbeats 2000000 in
theorem apYieldS (F : Fence) (m : Nat) (w0 : World) (fn : FuncId) (hfn : F.fn fn) (sv : Value) (Bs l D : Nat) (hBl : Bs ≠ l) (hDl : D ≠ l) (hDB : D ≠ Bs) (h0B : w0.heap.size ≤ Bs) (h0l : w0.heap.size ≤ l)
    (N : Nat) (hN : N ≤ maxLen) (hNb : N * 16 ≤ 140737488355328) (ss : List ByteArray) (x : ByteArray) (W : World) (h : ApAtS w0 fn sv Bs l D ss W) (hlen : ss.length < N) :
    YieldAt F m Tryz.prog l #[Value.string x] W fun e W' => e = .returned (.bool true) ∧ ApAtS w0 fn sv Bs l D (ss ++ [x]) W' ∧ KeepsWalks W W' := by
  obtain ⟨i0, hi, hz0, hz1, hz2⟩ := info_parts infoStr
  obtain ⟨v, hv, hrow, _⟩ := h.box
  refine ⟨fn, #[.slice none 0 0, sv, .pointer (some ⟨Bs, 0, none⟩), undef, .slice none 0 0, undef, sv, Value.string x, undef, undef, undef, undef, undef], apAssignS, apBodyS, by simpa [apRecS] using run_yield (P := Tryz.prog) (args := #[Value.string x]) h.L rfl, roundIn_of_wpIn hfn ?_⟩
  have hl : l < W.heap.size := (Array.getElem?_eq_some_iff.1 h.L).1
  have hbr := run_beginRound (P := Tryz.prog) h.L rfl
  obtain ⟨W2, hW2⟩ : ∃ W2, W.putObj l (.loop { apRecS fn sv Bs D .ready none with state := .busy }) = W2 := ⟨_, rfl⟩
  rw [hW2] at hbr
  have hg2 : W.grownBy W2 (some l) := by rw [← hW2]; exact grownBy_putObj' _ _ _
  have hk2 : KeepsWalks W W2 := by rw [← hW2]; exact KeepsWalks.putObj _ h.L rfl
  have hv2 : W2.heap[Bs]? = some (.cells #[v] 132 (0, 0)) := by rw [← hW2]; exact (World.putObj_heap_other hBl).trans hv
  have hK2 : W2.heap[D]? = some (.deferred (some [])) := by rw [← hW2]; exact (World.putObj_heap_other hDl).trans h.K
  have hL2 : W2.heap[l]? = some (.loop { apRecS fn sv Bs D .ready none with state := .busy }) := by rw [← hW2]; exact World.putObj_heap_same hl
  have hrow2 : W2.ownsRow w0.heap.size 9 1 v ss.length (ss.map Value.string) := hrow.kept hg2 (ownsRow_ne_q hrow h.L (fun cur e => by first | cases e | exact absurd (Obj.cells.inj e).2.1 (by decide)))
  have hb2 : Below w0.heap.size w0 W2 := h.below.grown hg2 h.below.size (fun k e => by cases e; exact h0l)
  obtain ⟨hc2, hf2⟩ := cell_of_box_q hv2
  have hBlt : Bs < W2.heap.size := (Array.getElem?_eq_some_iff.1 hv2).1
  have hl2 : l < W2.heap.size := (Array.getElem?_eq_some_iff.1 hL2).1
  have hDlt : D < W2.heap.size := (Array.getElem?_eq_some_iff.1 hK2).1
  have ne_of : ∀ {j : Nat} {o : Obj}, W2.heap[j]? = some o → (∀ cur, o ≠ .cells cur 9 (0, 0)) → some j ≠ v.ownBlock := fun hj hno => by
    rcases ownsRow_ne_q hrow2 hj hno with e | e
    · rw [e]; simp
    · exact fun e' => e e'.symm
  clear hW2
  unfold apAssignS
  gi_wp2_with (rw [Oper.semAt_eq _ _ _ (fun c h => by cases h)]; go_simp; try go_bits)
  unfold apBodyS
  gi_wp2_with (first
    | (gi_at_builtin; refine wpListIn_append_own _ rfl _ _ 132 rfl w0.heap.size 9 i0 (.string ⟨#[]⟩) 1 16 Tryz.underlying132 hi hz0 hz1 hz2 rfl (by decide) _ _ _ rfl (hrow2.alloc _) ⟨W2.heap.size, 0, none⟩ 1 1 [Value.string x] rfl rfl (cell_one_new _ _ _) (by simp [Value.oneCell']) (by omega) (by omega) (by have := hb2.size; simp; omega) ?_; intro v' w3 hown' hg3 hnil3
       have hv3 : w3.heap[Bs]? = some (.cells #[v] 132 (0, 0)) := (hg3.block Bs (by simp; omega) (ne_of hv2 (fun cur e => by first | cases e | exact absurd (Obj.cells.inj e).2.1 (by decide)))).trans ((Below.heap_alloc _ _ Bs hBlt).trans hv2)
       obtain ⟨hc3, hf3⟩ := cell_of_box_q hv3
       obtain ⟨g', cap', cur', rfl, hbase', hgb', hr1, hr2, hr3, hr4⟩ : ∃ g' cap' cur', v' = .slice (some ⟨g', 0, none⟩) (ss.length + 1) cap' ∧ w0.heap.size ≤ g' ∧ w3.heap[g']? = some (.cells cur' 9 (0, 0)) ∧ ss.length + 1 ≤ cap' ∧ cap' ≤ maxLen ∧ cur'.size = cap' * 1 ∧ cur'.toList.take ((ss.length + 1) * 1) = ss.map Value.string ++ [Value.string x] := by
         rcases hown'.2 with ⟨_, h0⟩ | h'
         · exact absurd h0 (by omega)
         · exact h'
       go_frame)
    | (rw [Oper.semAt_eq _ _ _ (fun c h => by cases h)]; go_simp; try go_bits))
  have hg3' : (W2.alloc (.cells #[Value.string x] 9)).grownBy w3 v.ownBlock := hg3
  have hL3 : w3.heap[l]? = some (.loop { apRecS fn sv Bs D .ready none with state := .busy }) := (hg3'.block l (by simp; omega) (ne_of hL2 (fun cur e => by first | cases e | exact absurd (Obj.cells.inj e).2.1 (by decide)))).trans ((Below.heap_alloc _ _ l hl2).trans hL2)
  have hK3 : w3.heap[D]? = some (.deferred (some [])) := (hg3'.block D (by simp; omega) (ne_of hK2 (fun cur e => by first | cases e | exact absurd (Obj.cells.inj e).2.1 (by decide)))).trans ((Below.heap_alloc _ _ D hDlt).trans hK2)
  obtain ⟨w4, hw4⟩ : ∃ w4, w3.setCell ⟨Bs, 0, none⟩ (.slice (some ⟨g', 0, none⟩) (ss.length + 1) cap') = w4 := ⟨_, rfl⟩
  rw [hw4]
  have hg4 : w3.grownBy w4 (some Bs) := by rw [← hw4]; exact grownBy_setCell0_q _ _ _
  have hv4 : w4.heap[Bs]? = some (.cells #[.slice (some ⟨g', 0, none⟩) (ss.length + 1) cap'] 132 (0, 0)) := by rw [← hw4]; exact heap_setCell_box_q _ hv3
  have hL4 : w4.heap[l]? = some (.loop { apRecS fn sv Bs D .ready none with state := .busy }) := (hg4.block l (Array.getElem?_eq_some_iff.1 hL3).1 (fun e => hBl (by cases e; rfl))).trans hL3
  have hK4 : w4.heap[D]? = some (.deferred (some [])) := (hg4.block D (Array.getElem?_eq_some_iff.1 hK3).1 (fun e => hDB (by cases e; rfl))).trans hK3
  have hrow4 := hown'.kept hg4 (ownsRow_ne_q hown' hv3 (fun cur e => by first | cases e | exact absurd (Obj.cells.inj e).2.1 (by decide)))
  have hl4 : l < w4.heap.size := (Array.getElem?_eq_some_iff.1 hL4).1
  have hb3 : Below w0.heap.size w0 w3 := (hb2.alloc hb2.size _).grown hg3' (by have := hb2.size; simp; omega) (fun k e => (hrow2.lt k e).1)
  have hb4 : Below w0.heap.size w0 w4 := hb3.grown hg4 hb3.size (fun k e => by cases e; exact h0B)
  have hk4 : KeepsWalks W w4 := ((hk2.trans (KeepsWalks.alloc _ _)).trans (KeepsWalks.of_grownBy hg3' (ownsRow_not_walk_q (hrow2.alloc _)))).trans (by rw [← hw4]; exact KeepsWalks.setCell _ _ _)
  clear hw4
  refine ⟨_, _, run_endRound none hL4, rfl, ⟨⟨_, (World.putObj_heap_other hBl).trans hv4, ?_, by simp⟩, World.putObj_heap_same hl4, (World.putObj_heap_other hDl).trans hK4, hb4.grown (grownBy_putObj' _ _ _) hb4.size (fun k e => by cases e; exact h0l)⟩, hk4.trans (KeepsWalks.putObj _ hL4 rfl)⟩
  have := hrow4.kept (grownBy_putObj' w4 l (.loop { { apRecS fn sv Bs D .ready none with state := .busy } with state := if (none : Option Code).isNone then .ready else .done, pending := none })) (ownsRow_ne_q hrow4 hL4 (fun cur e => by first | cases e | exact absurd (Obj.cells.inj e).2.1 (by decide)))
  simpa using this


set_option maxRecDepth 100000 in
set_option maxHeartbeats 2000000 in
theorem appendSeqS_in (F : Fence) (n : Nat) (h11 : F.fn 138) (hro : F.round = none) (hn : 2 ≤ n) (g : Nat) (lb : Array Value) (hFg : F.fn g) (eg : ∀ args w, (callFunc g args).run Tryz.prog w = .ok (.enter g args) w)
    (S : List ByteArray → Prop) (N : Nat) (hN : N ≤ maxLen) (hNb : N * 16 ≤ 140737488355328) (w : World) (hseq : SeqGives (α := ByteArray) F (n - 1) Tryz.prog g lb (fun s => Value.string s) S N w) :
    CallsIn F n Tryz.prog 138 #[.slice none 0 0, .func (.func g) #[] lb] w fun e w' => ∃ v ss, e = .returned v ∧ S ss ∧ w'.ownsRow w.heap.size 9 1 v ss.length (ss.map Value.string) ∧ (v = .slice none 0 0 ↔ ss = []) ∧ Below w.heap.size w w' := by
  have h1 : 1 ≤ n := by omega
  refine callsIn_of_wp_marks Tryz.func138 rfl h11 ?_ hro
  simp only [Tryz.ntmps138, List.size_toArray, List.length_cons, List.length_nil, Nat.reduceAdd, Nat.reduceSub, Array.replicate_succ, Array.replicate_zero, List.push_toArray, List.append_toArray, List.nil_append, List.cons_append]
  gi_wp2
  refine wpIn_rangeFunc ?_
  intro fn hfn
  rw [hro]
  obtain ⟨W0, hW0⟩ : ∃ W0, w.alloc (.cells #[.slice none 0 0] 132) = W0 := ⟨_, rfl⟩
  have hs0 : W0.heap.size = w.heap.size + 1 := by rw [← hW0]; simp
  have hv0 : W0.heap[w.heap.size]? = some (.cells #[.slice none 0 0] 132 (0, 0)) := by rw [← hW0]; exact World.alloc_heap_new w _
  have hb0 : Below w.heap.size w W0 := by rw [← hW0]; exact (Below.refl _ w).alloc (Nat.le_refl _) _
  rw [hW0]
  obtain ⟨W1, hW1⟩ : ∃ W1, (W0.alloc (.deferred (some []))).alloc (.loop (apRecS fn (.func (.func g) #[] lb) w.heap.size W0.heap.size .ready none)) = W1 := ⟨_, rfl⟩
  have hold : ∀ k, k < W0.heap.size → W1.heap[k]? = W0.heap[k]? := fun k hk => by
    rw [← hW1]; exact (Below.heap_alloc _ _ k (by simp; omega)).trans (Below.heap_alloc _ _ k hk)
  have hb1 : Below w.heap.size w W1 := by rw [← hW1]; exact (hb0.alloc hb0.size _).alloc (by have := hb0.size; simp; omega) _
  have hs1 : W1.heap.size = W0.heap.size + 2 := by rw [← hW1]; simp
  have hM : ApAtS w fn (.func (.func g) #[] lb) w.heap.size (W0.heap.size + 1) W0.heap.size [] W1 :=
    ⟨⟨_, (hold w.heap.size (by omega)).trans hv0, ⟨rfl, .inl ⟨rfl, rfl⟩⟩, by simp⟩,
     by rw [← hW1]; have := World.alloc_heap_new (W0.alloc (.deferred (some []))) (.loop (apRecS fn (.func (.func g) #[] lb) w.heap.size W0.heap.size .ready none)); rwa [World.size_alloc] at this,
     by rw [← hW1]; exact (Below.heap_alloc _ _ _ (by simp)).trans (World.alloc_heap_new W0 _), hb1⟩
  refine ⟨W0.heap.size + 1, [{ target := .collected W0.heap.size, args := #[] }], W1, { target := .fn (.func g) lb, args := #[.func (.yield (W0.heap.size + 1)) #[] #[]] }, W1, g,
    #[.func (.yield (W0.heap.size + 1)) #[] #[]] ++ lb, W1, ?_, ?_, ?_, ?_, fun _ => h1, ?_⟩
  · rw [← hW1]; exact run_enterLoop_outer _ _ _ _ _
  · simp [resolve, go_sem]
  · intro f' hf'; simp [Target.leads] at hf'; subst hf'; exact hFg
  · simp [invoke, go_sem, eg]
  · refine (hseq (W0.heap.size + 1) (ApAtS w fn (.func (.func g) #[] lb) w.heap.size (W0.heap.size + 1) W0.heap.size) W1 hb1 (apS_abides _ _ _ _ _ _ _ hb1.size)
      (fun pre x W hJ hl => apYieldS F (n - 1 - 1) w fn hfn _ w.heap.size (W0.heap.size + 1) W0.heap.size (by omega) (by omega) (by omega) (Nat.le_refl _) (by omega) N hN hNb pre x W hJ hl) hM).mono ?_
    rintro e W2 ⟨⟨v0, rfl⟩, ss, hS, h2⟩
    obtain ⟨v, hv, hrow, hnil⟩ := h2.box
    have hend := run_endLoop (P := Tryz.prog) h2.L (by simp [apRecS])
    obtain ⟨W3, hW3⟩ : ∃ W3, W2.putObj (W0.heap.size + 1) (.loop { apRecS fn (.func (.func g) #[] lb) w.heap.size W0.heap.size .ready none with state := .exhausted }) = W3 := ⟨_, rfl⟩
    rw [hW3] at hend
    have hg3 : W2.grownBy W3 (some (W0.heap.size + 1)) := by rw [← hW3]; exact grownBy_putObj' _ _ _
    have hv3 : W3.heap[w.heap.size]? = some (.cells #[v] 132 (0, 0)) := by rw [← hW3]; exact (World.putObj_heap_other (by omega)).trans hv
    have hK3 : W3.heap[W0.heap.size]? = some (.deferred (some [])) := by rw [← hW3]; exact (World.putObj_heap_other (by omega)).trans h2.K
    have hrow3 := hrow.kept hg3 (ownsRow_ne_q hrow h2.L (fun cur e => by cases e))
    have hb3 : Below w.heap.size w W3 := h2.below.grown hg3 h2.below.size (fun k e => by cases e; omega)
    obtain ⟨hc3, hf3⟩ := cell_of_box_q hv3
    clear hW3
    refine ⟨none, W3, hend, ?_⟩
    gi_wp2
    rw [← hs0]
    refine ⟨by simp, .inl ⟨_, _, rfl, run_takeDeferred hK3, ?_⟩⟩
    refine ⟨_, results_tmp rfl _ _ _, v, ss, rfl, hS, ?_, hnil, hb3.grown (grownBy_putObj' _ _ _) hb3.size (fun k e => by cases e; omega)⟩
    have := hrow3.kept (grownBy_putObj' W3 W0.heap.size (.deferred none)) (ownsRow_ne_q hrow3 hK3 (fun cur e => by cases e))
    simpa using this

theorem collectS_in (F : Fence) (n : Nat) (h8 : F.fn 108) (h11 : F.fn 138) (hro : F.round = none) (hn : 3 ≤ n) (g : Nat) (lb : Array Value) (hFg : F.fn g) (eg : ∀ args w, (callFunc g args).run Tryz.prog w = .ok (.enter g args) w)
    (S : List ByteArray → Prop) (N : Nat) (hN : N ≤ maxLen) (hNb : N * 16 ≤ 140737488355328) (w : World) (hseq : SeqGives (α := ByteArray) F (n - 1 - 1) Tryz.prog g lb (fun s => Value.string s) S N w) :
    CallsIn F n Tryz.prog 108 #[.func (.func g) #[] lb] w fun e w' => ∃ v ss, e = .returned v ∧ S ss ∧ w'.ownsRow w.heap.size 9 1 v ss.length (ss.map Value.string) ∧ (v = .slice none 0 0 ↔ ss = []) ∧ Below w.heap.size w w' := by
  have h1 : 1 ≤ n := by omega
  refine callsIn_of_wp Tryz.func108 rfl h8 ?_ hro
  simp only [Tryz.ntmps108, List.size_toArray, List.length_cons, List.length_nil, Nat.reduceAdd, Nat.reduceSub, Array.replicate_succ, Array.replicate_zero, List.push_toArray, List.append_toArray, List.nil_append, List.cons_append]
  gi_wp2_with (gi_at_call 138; refine (appendSeqS_in F (n - 1) h11 hro (by omega) g lb hFg eg S N hN hNb _ hseq).mono ?_; rintro e w' ⟨v, ss, rfl, hS, hrow, hnil, hb⟩)
  gi_wp2
  refine bodyPost_ret (results_tmp rfl _ _ _) rfl ?_
  exact ⟨v, ss, rfl, hS, hrow, hnil, hb⟩

end Go.Proofs.YtdkindollljlnabGreatDoor

namespace Go.Proofs.YtdkindollljlnabGreatDoor
open Go Go.RowKit
variable [Known]

set_option maxRecDepth 100000 in
theorem indexByte_any (s : ByteArray) (c : Int) (w : World) :
    Calls Tryz.prog 222 #[.string s, .int .u8 c] w fun e w' => e = .returned (.int .i64 (Lib.indexByte s.data.toList c.toNat.toUInt8)) ∧ w' = w := by
  go_enter Tryz.func222, Tryz.ntmps222
  go_wp2_with fail
  rw [run_callFunc_extern Tryz.func262 (by kernel_rfl) (by kernel_rfl) (by kernel_rfl) (e := Extern.BytealgIndexByte.indexByte) (by kernel_rfl), Lib.run_indexByteString]
  simp only [Result.andThen]
  rw [Oper.upon_value]
  go_wp2_with fail
  go_ret
  exact ⟨rfl, rfl⟩

set_option maxRecDepth 100000 in
theorem compareString_any (a b : ByteArray) (w : World) :
    Calls Tryz.prog 111 #[.string a, .string b] w fun e w' => e = .returned (.int .i64 (Lib.compareBytes a.data.toList b.data.toList)) ∧ w' = w := by
  go_enter Tryz.func111, Tryz.ntmps111
  go_wp2_with fail
  rw [run_callFunc_extern Tryz.func140 (by kernel_rfl) (by kernel_rfl) (by kernel_rfl) (e := Extern.BytealgCompare.compare) (by kernel_rfl), Lib.run_compareString]
  simp only [Result.andThen]
  rw [Oper.upon_value]
  go_wp2_with fail
  go_ret
  exact ⟨rfl, rfl⟩

/-- Where a byte stands first. -/
noncomputable def idxN (c : Nat) (l : List Nat) : Nat → Option Nat :=
  @List.rec Nat (fun _ => Nat → Option Nat) (fun _ => none) (fun x _ ih i => @Bool.rec (fun _ => Option Nat) (ih (Nat.succ i)) (some i) (Nat.beq (Nat.mod x 256) c)) l
noncomputable def idxS (c : Nat) (l : List Nat) : Int := match idxN c l 0 with
  | some i => (i : Nat)
  | none => -1
theorem idxN_ok (c : Nat) (hc : c < 256) : ∀ (l : List Nat) (i : Nat), (match idxN c l i with
    | some k => Lib.indexByte (l.map UInt8.ofNat) (UInt8.ofNat c) + i = (k : Nat) ∧ 0 ≤ Lib.indexByte (l.map UInt8.ofNat) (UInt8.ofNat c)
    | none => Lib.indexByte (l.map UInt8.ofNat) (UInt8.ofNat c) = -1) := by
  intro l
  induction l with
  | nil => intro i; rfl
  | cons x r ih =>
    intro i
    have hb : ((UInt8.ofNat x) == (UInt8.ofNat c)) = Nat.beq (Nat.mod x 256) c := by
      have e1 : ((UInt8.ofNat x) == (UInt8.ofNat c)) = decide (x % 256 = c % 256) := by
        have := u8_eq x c
        rw [this]; rfl
      rw [e1, Nat.mod_eq_of_lt hc]
      cases h : Nat.beq (Nat.mod x 256) c with
      | true => exact decide_eq_true (Nat.eq_of_beq_eq_true h)
      | false => exact decide_eq_false (Nat.ne_of_beq_eq_false h)
    show (match @Bool.rec (fun _ => Option Nat) (idxN c r (Nat.succ i)) (some i) (Nat.beq (Nat.mod x 256) c) with
      | some k => Lib.indexByte (UInt8.ofNat x :: r.map UInt8.ofNat) (UInt8.ofNat c) + i = (k : Nat) ∧ 0 ≤ Lib.indexByte (UInt8.ofNat x :: r.map UInt8.ofNat) (UInt8.ofNat c)
      | none => Lib.indexByte (UInt8.ofNat x :: r.map UInt8.ofNat) (UInt8.ofNat c) = -1)
    simp only [Lib.indexByte, hb]
    cases h : Nat.beq (Nat.mod x 256) c with
    | true => simp
    | false =>
      have hi := ih (i + 1)
      show (match idxN c r (i + 1) with
        | some k => _
        | none => _)
      cases hk : idxN c r (i + 1) with
      | some k =>
        rw [hk] at hi
        obtain ⟨h1, h2⟩ := hi
        have hne : ¬ ((Lib.indexByte (r.map UInt8.ofNat) (UInt8.ofNat c) == -1) = true) := by
          intro he
          have := eq_of_beq he
          omega
        simp only [Bool.false_eq_true, if_false, hne]
        omega
      | none =>
        rw [hk] at hi
        simp only at hi
        simp [hi]
theorem idxS_ok (c : Nat) (hc : c < 256) (l : List Nat) : Lib.indexByte (bytesOf l).data.toList (UInt8.ofNat c) = idxS c l := by
  rw [bytesOf_list]
  have h := idxN_ok c hc l 0
  unfold idxS
  cases hk : idxN c l 0 with
  | some k => rw [hk] at h; have := h.1; simp only; omega
  | none => rw [hk] at h; exact h
noncomputable def cmpS (a b : List Nat) : Int := @Bool.rec (fun _ => Int) (@Bool.rec (fun _ => Int) 1 0 (eqBytes a b)) (-1) (ltBytes a b)
theorem cmpS_ok : ∀ (a b : List Nat), Lib.compareBytes (a.map UInt8.ofNat) (b.map UInt8.ofNat) = cmpS a b := by
  intro a
  induction a with
  | nil => intro b; cases b <;> rfl
  | cons x r ih =>
    intro b
    cases b with
    | nil => rfl
    | cons y s =>
      have hlt : ∀ p q : Nat, (UInt8.ofNat p < UInt8.ofNat q) ↔ p % 256 < q % 256 := fun p q => by
        rw [UInt8.lt_iff_toNat_lt]; simp
      simp only [List.map_cons, Lib.compareBytes, hlt, ih]
      unfold cmpS
      simp only [ltBytes, eqBytes]
      by_cases h1 : x % 256 < y % 256
      · simp [h1]
      · by_cases h2 : y % 256 < x % 256
        · have h3 : (x % 256 == y % 256) = false := by simp; omega
          rw [h3]; simp [h1, h2]
        · have h3 : x % 256 = y % 256 := by omega
          simp [h3]

noncomputable def indexOut (args : List SV) (σ : SH) : Option Outs := match args with
  | [.str l, .int .u8 (.ofNat c)] => @Bool.rec (fun _ => Option Outs) none (some [(.int .i64 (idxS c l), σ)]) (Nat.blt c 256)
  | _ => none
theorem indexOut_ok (b : Base) {args : List SV} {σ : SH} {outs : Outs} {env : Env} {w : World} {vs : List Value} (h : indexOut args σ = some outs) (hr : Rel Tryz.prog b env σ w) (ha : denL env args = some vs) :
    Calls Tryz.prog 222 vs.toArray w (Comes1 Tryz.prog b env outs) := by
  unfold indexOut at h
  split at h
  · rename_i l c
    cases hc : Nat.blt c 256 with
    | false => rw [hc] at h; cases h
    | true =>
      rw [hc] at h
      replace h : some [(SV.int .i64 (idxS c l), σ)] = some outs := h
      cases h
      have hc : c < 256 := Nat.le_of_ble_eq_true hc
      obtain ⟨v, us, h1, h2, rfl⟩ := denL_cons ha
      obtain ⟨v2, us2, h3, h4, rfl⟩ := denL_cons h2
      simp only [den, Option.some.injEq] at h1 h3; subst h1; subst h3
      simp only [denL] at h4; cases h4
      refine (indexByte_any (bytesOf l) (c : Nat) w).mono ?_
      rintro e w' ⟨rfl, rfl⟩
      refine ⟨_, List.mem_singleton.2 rfl, env, _, rfl, Env.le_refl _, hr, ?_⟩
      simp only [den]
      rw [← idxS_ok c hc l]
      rfl
  · cases h
noncomputable def compareOut (args : List SV) (σ : SH) : Option Outs := match args with
  | [.str l, .str m] => some [(.int .i64 (cmpS l m), σ)]
  | _ => none
theorem compareOut_ok (b : Base) {args : List SV} {σ : SH} {outs : Outs} {env : Env} {w : World} {vs : List Value} (h : compareOut args σ = some outs) (hr : Rel Tryz.prog b env σ w) (ha : denL env args = some vs) :
    Calls Tryz.prog 111 vs.toArray w (Comes1 Tryz.prog b env outs) := by
  unfold compareOut at h
  split at h
  · rename_i l m; cases h
    obtain ⟨v, us, h1, h2, rfl⟩ := denL_cons ha
    obtain ⟨v2, us2, h3, h4, rfl⟩ := denL_cons h2
    simp only [den, Option.some.injEq] at h1 h3; subst h1; subst h3
    simp only [denL] at h4; cases h4
    refine (compareString_any (bytesOf l) (bytesOf m) w).mono ?_
    rintro e w' ⟨rfl, rfl⟩
    refine ⟨_, List.mem_singleton.2 rfl, env, _, rfl, Env.le_refl _, hr, ?_⟩
    simp only [den]
    rw [bytesOf_list, bytesOf_list, cmpS_ok]
  · cases h

set_option maxRecDepth 100000 in
theorem count1_aux (s : ByteArray) (c : UInt8) (w : World) :
    Calls Tryz.prog 179 #[.string s, .string ⟨#[c]⟩] w fun e w' => e = .returned (.int .i64 (Lib.countByte s.data.toList c)) ∧ w' = w := by
  go_enter Tryz.func179, Tryz.ntmps179
  go_wp2
  rw [run_callFunc_extern Tryz.func230 (by kernel_rfl) (by kernel_rfl) (by kernel_rfl) (e := Extern.BytealgCount.count) (by kernel_rfl), Lib.run_countString]
  simp only [Result.andThen]
  rw [Oper.upon_value]
  go_wp2
  go_ret
  exact ⟨rfl, rfl⟩
noncomputable def cntN (c : Nat) (l : List Nat) : Nat :=
  @List.rec Nat (fun _ => Nat) 0 (fun x _ ih => @Bool.rec (fun _ => Nat) ih (Nat.succ ih) (Nat.beq (Nat.mod x 256) c)) l
theorem cntN_ok (c : Nat) (hc : c < 256) : ∀ l : List Nat, Lib.countByte (l.map UInt8.ofNat) (UInt8.ofNat c) = cntN c l := by
  intro l
  induction l with
  | nil => rfl
  | cons x r ih =>
    have hb : ((UInt8.ofNat x) == (UInt8.ofNat c)) = Nat.beq (Nat.mod x 256) c := by
      have e1 : ((UInt8.ofNat x) == (UInt8.ofNat c)) = decide (x % 256 = c % 256) := by
        have := u8_eq x c
        rw [this]; rfl
      rw [e1, Nat.mod_eq_of_lt hc]
      cases h : Nat.beq (Nat.mod x 256) c with
      | true => exact decide_eq_true (Nat.eq_of_beq_eq_true h)
      | false => exact decide_eq_false (Nat.ne_of_beq_eq_false h)
    unfold Lib.countByte at ih ⊢
    rw [List.map_cons, List.count_cons, hb, ih]
    show _ = @Bool.rec (fun _ => Nat) (cntN c r) (Nat.succ (cntN c r)) (Nat.beq (Nat.mod x 256) c)
    cases Nat.beq (Nat.mod x 256) c <;> simp
noncomputable def countOut (args : List SV) (σ : SH) : Option Outs := match args with
  | [.str l, .str [c]] => @Bool.rec (fun _ => Option Outs) none (some [(.int .i64 (cntN c l : Nat), σ)]) (Nat.blt c 256)
  | _ => none
theorem countOut_ok (b : Base) {args : List SV} {σ : SH} {outs : Outs} {env : Env} {w : World} {vs : List Value} (h : countOut args σ = some outs) (hr : Rel Tryz.prog b env σ w) (ha : denL env args = some vs) :
    Calls Tryz.prog 179 vs.toArray w (Comes1 Tryz.prog b env outs) := by
  unfold countOut at h
  split at h
  · rename_i l c
    cases hc : Nat.blt c 256 with
    | false => rw [hc] at h; cases h
    | true =>
      rw [hc] at h
      replace h : some [(SV.int .i64 (cntN c l : Nat), σ)] = some outs := h
      cases h
      have hc : c < 256 := Nat.le_of_ble_eq_true hc
      obtain ⟨v, us, h1, h2, rfl⟩ := denL_cons ha
      obtain ⟨v2, us2, h3, h4, rfl⟩ := denL_cons h2
      simp only [den, Option.some.injEq] at h1 h3; subst h1; subst h3
      simp only [denL] at h4; cases h4
      refine (count1_aux (bytesOf l) (UInt8.ofNat c) w).mono ?_
      rintro e w' ⟨rfl, rfl⟩
      refine ⟨_, List.mem_singleton.2 rfl, env, _, rfl, Env.le_refl _, hr, ?_⟩
      simp only [den]
      rw [bytesOf_list, cntN_ok c hc]
  · cases h
end Go.Proofs.YtdkindollljlnabGreatDoor

namespace Go.Proofs.YtdkindollljlnabGreatDoor
open Go Go.RowKit

/-- All orders of a list. -/
def insertAll {α : Type} (x : α) : List α → List (List α)
  | [] => [[x]]
  | y :: r => (x :: y :: r) :: (insertAll x r).map (y :: ·)
def perms {α : Type} : List α → List (List α)
  | [] => [[]]
  | x :: r => (perms r).flatMap (insertAll x)
theorem mem_insertAll {α : Type} (x : α) : ∀ (a b : List α), a ++ x :: b ∈ insertAll x (a ++ b) := by
  intro a
  induction a with
  | nil => intro b; cases b <;> simp [insertAll]
  | cons y r ih => intro b; simp only [List.cons_append, insertAll]; exact List.mem_cons_of_mem _ (List.mem_map.2 ⟨_, ih b, rfl⟩)
theorem mem_perms {α : Type} : ∀ (l ys : List α), ys.Perm l → ys ∈ perms l := by
  intro l
  induction l with
  | nil => intro ys h; rw [List.Perm.eq_nil h]; simp [perms]
  | cons x r ih =>
    intro ys h
    have hx : x ∈ ys := h.mem_iff.2 (by simp)
    obtain ⟨a, b, rfl⟩ := List.append_of_mem hx
    have hp : (a ++ b).Perm r := (List.perm_middle.symm.trans h).cons_inv
    exact List.mem_flatMap.2 ⟨a ++ b, ih _ hp, mem_insertAll x a b⟩
end Go.Proofs.YtdkindollljlnabGreatDoor

namespace Go.Proofs.YtdkindollljlnabGreatDoor
open Go Go.RowKit Go.Shelf Go.Maps
variable [Known]

theorem perm_lift {α β : Type} (f : α → β) : ∀ (l : List α) (b : List β), b.Perm (l.map f) → ∃ l' : List α, l'.Perm l ∧ l'.map f = b := by
  intro l
  induction l with
  | nil => intro b h; rw [List.map_nil] at h; rw [List.Perm.eq_nil h]; exact ⟨[], List.Perm.refl _, rfl⟩
  | cons x r ih =>
    intro b h
    have hx : f x ∈ b := h.mem_iff.2 (by simp)
    obtain ⟨a, c, rfl⟩ := List.append_of_mem hx
    have hp : (a ++ c).Perm (r.map f) := (List.perm_middle.symm.trans h).cons_inv
    obtain ⟨l', h1, h2⟩ := ih _ hp
    obtain ⟨l1, l2, rfl, rfl, rfl⟩ := List.map_eq_append_iff.1 h2
    exact ⟨l1 ++ x :: l2, List.perm_middle.trans (h1.cons x), by simp⟩

theorem denL_flatten {env : Env} : ∀ (ps : List (List SV × List Value)), (∀ p ∈ ps, denL env p.1 = some p.2) → denL env (ps.map (·.1)).flatten = some (ps.flatMap (·.2)) := by
  intro ps
  induction ps with
  | nil => intro _; rfl
  | cons p r ih =>
    intro h
    rw [List.map_cons, List.flatten_cons, List.flatMap_cons]
    exact denL_append (h p (by simp)) (ih fun q hq => h q (by simp [hq]))

/-- What a new row of elements is. -/
noncomputable def rowOut (T : TypeId) (σ : SH) (n : Nat) (l : List SV) : SV × SH := @Nat.rec (fun _ => SV × SH) (.nils, σ) (fun _ _ => (.slice σ.next 0 n (.rest 0), σ.push (.cells l T false))) n
theorem rowOut_ok {b0 : Base} {env : Env} {σ : SH} {w w' : World} {T : TypeId} {sz n : Nat} {l : List SV} {v : Value} {xs : List Value} (hr : Rel Tryz.prog b0 env σ w) (hb : Below w.heap.size w w') (hrow : w'.ownsRow w.heap.size T sz v n xs) (hnil : v = .slice none 0 0 ↔ n = 0)
    (hd : denL env l = some xs) (hsz : Tryz.prog.cellsOf T = sz) : ∃ env', env.le env' ∧ Rel Tryz.prog b0 env' (rowOut T σ n l).2 w' ∧ den env' (rowOut T σ n l).1 = some v := by
  have hl := denL_length hd
  cases n with
  | zero =>
    rw [hnil.2 rfl]
    exact ⟨env, Env.le_refl _, hr.world hb, rfl⟩
  | succ n =>
    have hlen := hrow.1
    rcases hrow.2 with ⟨rfl, h0⟩ | ⟨g', cap', cur', rfl, hbase', hgb', hr1, hr2, hr3, hr4⟩
    · cases h0
    · have hnew := Env.new env σ.next g' cap'
      have hle := hr.le_push g' cap'
      have hO : ORel Tryz.prog (env.push σ.next g' cap') w' g' cap' (.cells l T false) :=
        ⟨cur', T, (0, 0), xs, hgb', thawed_zero _, denL_mono hle _ _ hd, by rw [← hl, hlen]; exact hr4, fun hx => absurd hx (by decide), fun _ => ⟨by rw [hsz]; exact hr3, hr2, rfl⟩⟩
      exact ⟨_, hle, hr.adopt hb hbase' hO, by simp only [rowOut, den, hnew, capOf]; rfl⟩

/-- What the map in a box holds. -/
theorem Rel.boxed {b0 : Base} {env : Env} {σ : SH} {w : World} (hr : Rel Tryz.prog b0 env σ w) {x m : Nat} {e1 : TypeId} {x1 : Bool} {es : List (SV × SV)} (hx : σ.get x = some (.cells [.map m] e1 x1)) (hm : σ.get m = some (.map es)) :
    ∃ bx cx bm ents ks, env.blocks x = some (bx, cx) ∧ bx < w.heap.size ∧ w.cell? ⟨bx, 0, none⟩ = some (.map (some bm)) ∧ w.heap[bm]? = some (.map ents ents.size) ∧ denL env (es.map (·.1)) = some ks ∧ ents.toList.map (·.key) = ks ∧ (∀ (i : Nat) (y : MapEntry), ents[i]? = some y → y.born = i) ∧ ents.size = es.length := by
  obtain ⟨bx, cx, hbx, _, hOx⟩ := hr.obj x _ hx
  obtain ⟨bm, cm, hbm, _, hOm⟩ := hr.obj m _ hm
  obtain ⟨cur, t, fr, us, hcur, hth, hus, htake, _⟩ := hOx
  obtain ⟨ents, clock, kvs, vvs, hents, hkv, hvv, hkeys, hvals, hclock, hborn⟩ := hOm
  obtain rfl : us = [.map (some bm)] := by
    obtain ⟨v, us', h1, h2, rfl⟩ := denL_cons hus
    obtain ⟨bm2, k2, h3, rfl⟩ := den_map h1
    rw [hbm] at h3; cases h3
    simp only [denL] at h2; cases h2; rfl
  subst hclock
  have hBm : bx < w.heap.size := (Array.getElem?_eq_some_iff.1 hcur).1
  refine ⟨bx, cx, bm, ents, kvs, hbx, hBm, ?_, hents, hkv, hkeys, hborn, ?_⟩
  · rw [cell_of_row w bx 0 cur t fr hcur]
    have := congrArg (·[0]?) htake
    simpa using this
  · have := denL_length hkv
    rw [← hkeys] at this
    simpa using this

/-- The string keys of a map. -/
def strKeysS : List (SV × SV) → Option (List (List Nat))
  | [] => some []
  | (.str l, _) :: r => match strKeysS r with
    | some m => some (l :: m)
    | none => none
  | _ :: _ => none
theorem strKeysS_ok {env : Env} : ∀ {es : List (SV × SV)} {kl : List (List Nat)} {ks : List Value}, strKeysS es = some kl → denL env (es.map (·.1)) = some ks → ks = kl.map fun l => Value.string (bytesOf l) := by
  intro es
  induction es with
  | nil =>
    intro kl ks h hd
    simp only [strKeysS] at h; cases h
    simp only [List.map_nil, denL] at hd; cases hd; rfl
  | cons x r ih =>
    intro kl ks h hd
    obtain ⟨a, u⟩ := x
    cases a <;> simp only [strKeysS] at h <;> try (cases h; done)
    cases hr : strKeysS r with
    | none => rw [hr] at h; cases h
    | some m =>
      rw [hr] at h; cases h
      obtain ⟨v, us, h1, h2, rfl⟩ := denL_cons (show denL env (SV.str _ :: r.map (·.1)) = some ks from hd)
      simp only [den, Option.some.injEq] at h1; subst h1
      rw [List.map_cons, ih hr h2]
theorem denL_strs {env : Env} : ∀ (l : List (List Nat)), denL env (l.map SV.str) = some (l.map fun x => Value.string (bytesOf x)) := by
  intro l
  induction l with
  | nil => rfl
  | cons x r ih => rw [List.map_cons, List.map_cons]; exact denL_mk (by simp only [den]) ih
end Go.Proofs.YtdkindollljlnabGreatDoor

namespace Go.Proofs.YtdkindollljlnabGreatDoor
open Go Go.RowKit Go.Shelf

set_option maxRecDepth 100000 in
set_option maxHeartbeats 2000000 in
/-- maps.Keys of a map whose entries are known: its iterator gives each once. -/
theorem keysI_gives (F : Fence) (n : Nat) (h10 : F.fn 81) (hro : F.round = none) (hn : 1 ≤ n) (Bm b : Nat) (es : Array MapEntry) (hkey : ∀ e ∈ es.toList, ∃ kc : Array Value, e.key = .agg kc ∧ kc.size = 20 ∧ kc.all (·.oneCell') = true) (hborn : ∀ (i : Nat) (x : MapEntry), es[i]? = some x → x.born = i) (w : World) (hBm : Bm < w.heap.size)
    (hm : w.cell? ⟨Bm, 0, none⟩ = some (.map (some b))) (hown : w.heap[b]? = some (.map es es.size)) :
    SeqGives (α := IdK) F n Tryz.prog 81 #[.pointer (some ⟨Bm, 0, none⟩)] (fun k => .agg k.kc) (fun xs => (xs.map fun k => Value.agg k.kc).Perm (es.toList.map (·.key))) es.size w := by
  intro l J W hW hJ hY h0
  have hm' : W.cell? ⟨Bm, 0, none⟩ = some (.map (some b)) := (hW.cell (p := ⟨Bm, 0, none⟩) hBm).trans hm
  have hown' : W.heap[b]? = some (.map es es.size) := (hW.block b (Array.getElem?_eq_some_iff.1 hown).1).trans hown
  have hblt : b < W.heap.size := (Array.getElem?_eq_some_iff.1 hown').1
  have hnd := born_nodup hborn
  refine callsIn_of_wp Tryz.func81 rfl h10 ?_ hro
  simp only [Tryz.ntmps81, List.size_toArray, List.length_cons, List.length_nil, Nat.reduceAdd, Nat.reduceSub, Array.replicate_succ, Array.replicate_zero, List.push_toArray, List.append_toArray, List.nil_append, List.cons_append]
  have hrg := run_range_map (P := Tryz.prog) W 92 23 _ b es es.size Tryz.underlying92 hown'
  gi_wp2_with (first
    | (gi_at_range; refine wpListIn_op_val rfl (fun c h => by cases h) (fun c h => by cases h) (v := .pointer (some ⟨W.heap.size, 0, none⟩)) (w' := W.alloc (.mapIter (some b) es.size #[] es.size)) (by simp [execOp, go_sem, hrg]) ?_)
    | gi_in)
  gi_loopw [3] (fun _ wr => ∃ (seen : Array Nat) (ys : List MapEntry) (xs : List IdK), wr.heap[W.heap.size]? = some (.mapIter (some b) es.size seen es.size) ∧ wr.heap[b]? = some (.map es es.size) ∧ (ys ++ (leftOf es seen).toList).Perm es.toList ∧ (xs.map fun k => Value.agg k.kc) = ys.map (·.key) ∧ J xs wr)
    (fun _ wr => (leftOf es (wr.iterSeen W.heap.size)).size)
  case atStart =>
    refine ⟨#[], [], [], World.alloc_heap_new W _, ?_, ?_, rfl, ?_⟩
    · exact (Below.heap_alloc W _ b hblt).trans hown'
    · rw [left_none]; exact List.Perm.refl _
    · exact hJ [] W _ none h0 (World.grownBy_alloc W _ none) (fun r e => by cases e)
  case round =>
    obtain ⟨seen, ys, xs, hit, hb, hperm, hxy, hJs⟩ := hrel
    have hseen : wr.iterSeen W.heap.size = seen := by simp [World.iterSeen, hit]
    rcases next_known (P := Tryz.prog) _ hit hb hborn (by omega) with ⟨hl0, hnext⟩ | ⟨e, he, w2, hnext, hg2, hs2, hit2, hb2⟩
    · gi_wp2_with (first
        | (gi_at_next; refine wpListIn_next_run rfl _ rfl rfl hnext ?_)
        | gi_in)
      go_end0
      have : (leftOf es seen).toList = [] := by
        have : (leftOf es seen) = #[] := Array.eq_empty_of_size_eq_zero hl0
        rw [this]
      rw [this, List.append_nil] at hperm
      exact ⟨⟨_, rfl⟩, xs, by rw [hxy]; exact hperm.map _, hJs⟩
    · have heL := (mem_left he).1
      obtain ⟨kc, hek, hk, hk1⟩ := hkey e heL
      have hlen : xs.length < es.size := by
        have hxl := congrArg List.length hxy
        rw [List.length_map, List.length_map] at hxl
        have := hperm.length_eq
        rw [List.length_append] at this
        have : 0 < (leftOf es seen).toList.length := List.length_pos_of_mem he
        have e2 : es.toList.length = es.size := Array.length_toList
        omega
      have hlt : W.heap.size < wr.heap.size := (Array.getElem?_eq_some_iff.1 hit).1
      have hJ2 : J xs w2 := hJ xs wr w2 (some W.heap.size) hJs hg2 (fun r q => by cases q; exact ⟨Nat.le_refl _, _, hit, rfl⟩)
      have hJ3 : J xs (w2.alloc (.cells kc 23)) := hJ xs w2 _ none hJ2 (World.grownBy_alloc _ _ none) (fun r e => by cases e)
      have hit3 : (w2.alloc (.cells kc 23)).heap[W.heap.size]? = some (.mapIter (some b) es.size (seen.push e.born) es.size) := (Below.heap_alloc _ _ _ (Array.getElem?_eq_some_iff.1 hit2).1).trans hit2
      have hb3 : (w2.alloc (.cells kc 23)).heap[b]? = some (.map es es.size) := (Below.heap_alloc _ _ _ (Array.getElem?_eq_some_iff.1 hb2).1).trans hb2
      obtain ⟨fn, tmps, assign, body, hy, hR⟩ := hY xs ⟨kc, hk, hk1⟩ _ hJ3 hlen
      clear hs2
      gi_wp2_with (first
        | (gi_at_next; refine wpListIn_next_run rfl _ rfl rfl hnext ?_)
        | (refine wpListIn_entry_run rfl _ rfl rfl (run_entry_at _ _ _ _ _ _ _ _ hit2 hb2 heL hnd) ?_; rw [hek])
        | (refine wpListIn_op_val rfl (fun c h => by cases h) (fun c h => by cases h) (exec_alloc_row (zeroId _) _ _ _ _ _) ?_)
        | (refine wpListIn_op_skip rfl (fun c h => by cases h) (fun c h => by cases h) (exec_store_row (z := Array.replicate 20 (.int .u8 0)) (c := kc) (infoIdSize hk) (by rw [hk, Array.size_replicate]) hk1 rfl rfl _ _ _ _) ?_)
        | (refine wpListIn_op_val rfl (fun c h => by cases h) (fun c h => by cases h) (exec_load_row (infoIdSize hk) Tryz.underlying23 rfl _ _ _ _) ?_)
        | gi_in)
      refine hR.mono ?_
      rintro e3 W3 ⟨rfl, hJ4, hk4⟩
      have hit4 := hk4.same _ _ hit3 rfl
      have hb4 := hk4.same _ _ hb3 rfl
      gi_wp2
      go_roundw
      case rel => exact ⟨_, _, _, hit4, hb4, left_step hnd he hperm, by rw [List.map_append, List.map_append, hxy]; simp [hek], hJ4⟩
      case measure => simp only [World.iterSeen, hit, hit4]; exact left_shrinks es seen e he
end Go.Proofs.YtdkindollljlnabGreatDoor

namespace Go.Proofs.YtdkindollljlnabGreatDoor
open Go Go.RowKit Go.Shelf Go.Maps
variable [Known]

attribute [local go_sem] Oper.semAt_some

set_option maxRecDepth 100000 in
set_option maxHeartbeats 2000000 in
theorem appendSeq_in (F : Fence) (n : Nat) (h11 : F.fn 115) (hro : F.round = none) (hn : 2 ≤ n) (g : Nat) (lb : Array Value) (hFg : F.fn g) (eg : ∀ args w, (callFunc g args).run Tryz.prog w = .ok (.enter g args) w)
    (S : List IdK → Prop) (N : Nat) (hN : N ≤ maxLen) (hNb : N * 20 ≤ 140737488355328) (w : World) (hseq : SeqGives (α := IdK) F (n - 1) Tryz.prog g lb (fun k => .agg k.kc) S N w) :
    CallsIn F n Tryz.prog 115 #[.slice none 0 0, .func (.func g) #[] lb] w fun e w' => ∃ v ss, e = .returned v ∧ S ss ∧ w'.ownsRow w.heap.size 23 20 v ss.length (ss.flatMap keyCells) ∧ (v = .slice none 0 0 ↔ ss = []) ∧ Below w.heap.size w w' := by
  have h1 : 1 ≤ n := by omega
  refine callsIn_of_wp_marks Tryz.func115 rfl h11 ?_ hro
  simp only [Tryz.ntmps115, List.size_toArray, List.length_cons, List.length_nil, Nat.reduceAdd, Nat.reduceSub, Array.replicate_succ, Array.replicate_zero, List.push_toArray, List.append_toArray, List.nil_append, List.cons_append]
  gi_wp2
  refine wpIn_rangeFunc ?_
  intro fn hfn
  rw [hro]
  obtain ⟨W0, hW0⟩ : ∃ W0, w.alloc (.cells #[.slice none 0 0] 45) = W0 := ⟨_, rfl⟩
  have hs0 : W0.heap.size = w.heap.size + 1 := by rw [← hW0]; simp
  have hv0 : W0.heap[w.heap.size]? = some (.cells #[.slice none 0 0] 45 (0, 0)) := by rw [← hW0]; exact World.alloc_heap_new w _
  have hb0 : Below w.heap.size w W0 := by rw [← hW0]; exact (Below.refl _ w).alloc (Nat.le_refl _) _
  rw [hW0]
  obtain ⟨W1, hW1⟩ : ∃ W1, (W0.alloc (.deferred (some []))).alloc (.loop (apRec fn (.func (.func g) #[] lb) w.heap.size W0.heap.size .ready none)) = W1 := ⟨_, rfl⟩
  have hold : ∀ k, k < W0.heap.size → W1.heap[k]? = W0.heap[k]? := fun k hk => by
    rw [← hW1]; exact (Below.heap_alloc _ _ k (by simp; omega)).trans (Below.heap_alloc _ _ k hk)
  have hb1 : Below w.heap.size w W1 := by rw [← hW1]; exact (hb0.alloc hb0.size _).alloc (by have := hb0.size; simp; omega) _
  have hs1 : W1.heap.size = W0.heap.size + 2 := by rw [← hW1]; simp
  have hM : ApAt w fn (.func (.func g) #[] lb) w.heap.size (W0.heap.size + 1) W0.heap.size [] W1 :=
    ⟨⟨_, (hold w.heap.size (by omega)).trans hv0, ⟨rfl, .inl ⟨rfl, rfl⟩⟩, by simp⟩,
     by rw [← hW1]; have := World.alloc_heap_new (W0.alloc (.deferred (some []))) (.loop (apRec fn (.func (.func g) #[] lb) w.heap.size W0.heap.size .ready none)); rwa [World.size_alloc] at this,
     by rw [← hW1]; exact (Below.heap_alloc _ _ _ (by simp)).trans (World.alloc_heap_new W0 _), hb1⟩
  refine ⟨W0.heap.size + 1, [{ target := .collected W0.heap.size, args := #[] }], W1, { target := .fn (.func g) lb, args := #[.func (.yield (W0.heap.size + 1)) #[] #[]] }, W1, g,
    #[.func (.yield (W0.heap.size + 1)) #[] #[]] ++ lb, W1, ?_, ?_, ?_, ?_, fun _ => h1, ?_⟩
  · rw [← hW1]; exact run_enterLoop_outer _ _ _ _ _
  · simp [resolve, go_sem]
  · intro f' hf'; simp [Target.leads] at hf'; subst hf'; exact hFg
  · simp [invoke, go_sem, eg]
  · refine (hseq (W0.heap.size + 1) (ApAt w fn (.func (.func g) #[] lb) w.heap.size (W0.heap.size + 1) W0.heap.size) W1 hb1 (ap_abides _ _ _ _ _ _ _ hb1.size)
      (fun pre x W hJ hl => apYield F (n - 1 - 1) w fn hfn _ w.heap.size (W0.heap.size + 1) W0.heap.size (by omega) (by omega) (by omega) (Nat.le_refl _) (by omega) N hN hNb pre x W hJ hl) hM).mono ?_
    rintro e W2 ⟨⟨v0, rfl⟩, ss, hS, h2⟩
    obtain ⟨v, hv, hrow, hnil⟩ := h2.box
    have hend := run_endLoop (P := Tryz.prog) h2.L (by simp [apRec])
    obtain ⟨W3, hW3⟩ : ∃ W3, W2.putObj (W0.heap.size + 1) (.loop { apRec fn (.func (.func g) #[] lb) w.heap.size W0.heap.size .ready none with state := .exhausted }) = W3 := ⟨_, rfl⟩
    rw [hW3] at hend
    have hg3 : W2.grownBy W3 (some (W0.heap.size + 1)) := by rw [← hW3]; exact grownBy_putObj' _ _ _
    have hv3 : W3.heap[w.heap.size]? = some (.cells #[v] 45 (0, 0)) := by rw [← hW3]; exact (World.putObj_heap_other (by omega)).trans hv
    have hK3 : W3.heap[W0.heap.size]? = some (.deferred (some [])) := by rw [← hW3]; exact (World.putObj_heap_other (by omega)).trans h2.K
    have hrow3 := hrow.kept hg3 (ownsRow_ne_q hrow h2.L (fun cur e => by cases e))
    have hb3 : Below w.heap.size w W3 := h2.below.grown hg3 h2.below.size (fun k e => by cases e; omega)
    obtain ⟨hc3, hf3⟩ := cell_of_box_q hv3
    clear hW3
    refine ⟨none, W3, hend, ?_⟩
    gi_wp2
    rw [← hs0]
    refine ⟨by simp, .inl ⟨_, _, rfl, run_takeDeferred hK3, ?_⟩⟩
    refine ⟨_, results_tmp rfl _ _ _, v, ss, rfl, hS, ?_, hnil, hb3.grown (grownBy_putObj' _ _ _) hb3.size (fun k e => by cases e; omega)⟩
    have := hrow3.kept (grownBy_putObj' W3 W0.heap.size (.deferred none)) (ownsRow_ne_q hrow3 hK3 (fun cur e => by cases e))
    simpa using this

theorem collect_in (F : Fence) (n : Nat) (h8 : F.fn 79) (h11 : F.fn 115) (hro : F.round = none) (hn : 3 ≤ n) (g : Nat) (lb : Array Value) (hFg : F.fn g) (eg : ∀ args w, (callFunc g args).run Tryz.prog w = .ok (.enter g args) w)
    (S : List IdK → Prop) (N : Nat) (hN : N ≤ maxLen) (hNb : N * 20 ≤ 140737488355328) (w : World) (hseq : SeqGives (α := IdK) F (n - 1 - 1) Tryz.prog g lb (fun k => .agg k.kc) S N w) :
    CallsIn F n Tryz.prog 79 #[.func (.func g) #[] lb] w fun e w' => ∃ v ss, e = .returned v ∧ S ss ∧ w'.ownsRow w.heap.size 23 20 v ss.length (ss.flatMap keyCells) ∧ (v = .slice none 0 0 ↔ ss = []) ∧ Below w.heap.size w w' := by
  have h1 : 1 ≤ n := by omega
  refine callsIn_of_wp Tryz.func79 rfl h8 ?_ hro
  simp only [Tryz.ntmps79, List.size_toArray, List.length_cons, List.length_nil, Nat.reduceAdd, Nat.reduceSub, Array.replicate_succ, Array.replicate_zero, List.push_toArray, List.append_toArray, List.nil_append, List.cons_append]
  gi_wp2_with (gi_at_call 115; refine (appendSeq_in F (n - 1) h11 hro (by omega) g lb hFg eg S N hN hNb _ hseq).mono ?_; rintro e w' ⟨v, ss, rfl, hS, hrow, hnil, hb⟩)
  gi_wp2
  refine bodyPost_ret (results_tmp rfl _ _ _) rfl ?_
  exact ⟨v, ss, rfl, hS, hrow, hnil, hb⟩

theorem collect_known (w : World) (Bm b : Nat) (es : Array MapEntry) (hkey : ∀ e ∈ es.toList, ∃ kc : Array Value, e.key = .agg kc ∧ kc.size = 20 ∧ kc.all (·.oneCell') = true) (hborn : ∀ (i : Nat) (x : MapEntry), es[i]? = some x → x.born = i) (hsz : es.size ≤ 1099511627776) (hBm : Bm < w.heap.size)
    (hm : w.cell? ⟨Bm, 0, none⟩ = some (.map (some b))) (hown : w.heap[b]? = some (.map es es.size)) :
    Calls Tryz.prog 79 #[.func (.func 81) #[] #[.pointer (some ⟨Bm, 0, none⟩)]] w fun e w' => ∃ v ss, e = .returned v ∧ ((ss.map fun k => Value.agg k.kc).Perm (es.toList.map (·.key))) ∧ w'.ownsRow w.heap.size 23 20 v ss.length (ss.flatMap keyCells) ∧ (v = .slice none 0 0 ↔ ss = []) ∧ Below w.heap.size w w' :=
  callsIn_wide.1 (collect_in Fence.wide 3 trivial trivial rfl (Nat.le_refl _) _ _ trivial (enters_of Tryz.func81 (by kernel_rfl) rfl) (fun ss => (ss.map fun k => Value.agg k.kc).Perm (es.toList.map (·.key))) es.size (by unfold maxLen; omega) (by omega) w
    (keysI_gives Fence.wide 1 trivial rfl (Nat.le_refl _) Bm b es hkey hborn w hBm hm hown))

def allInt : List SV → Bool
  | [] => true
  | .int _ _ :: r => allInt r
  | _ :: _ => false
theorem allInt_one {env : Env} : ∀ {l : List SV} {vs : List Value}, allInt l = true → denL env l = some vs → ∀ v ∈ vs, v.oneCell' = true := by
  intro l
  induction l with
  | nil => intro vs _ h; simp only [denL] at h; cases h; simp
  | cons x r ih =>
    intro vs ha h
    obtain ⟨v, us, h1, h2, rfl⟩ := denL_cons h
    cases x <;> simp only [allInt, Bool.false_eq_true] at ha
    simp only [den, Option.some.injEq] at h1; subst h1
    intro u hu
    rcases List.mem_cons.1 hu with rfl | hu
    · rfl
    · exact ih ha h2 u hu

end Go.Proofs.YtdkindollljlnabGreatDoor

namespace Go.Proofs.YtdkindollljlnabGreatDoor
open Go Go.RowKit
variable [Known]

section
variable {P : Program} {w0 : Base} {env : Env} {σ : SH} {w : World}
/-- What bytes a row holds. -/
def BytesAt (w : World) (b off : Nat) (bs : List Nat) : Prop := ∀ (j x : Nat), bs[j]? = some x → w.cell? ⟨b, off + j, none⟩ = some (.int .u8 ((UInt8.ofNat x).toNat : Nat))
theorem Rel.bytesAt (h : Rel P w0 env σ w) {n b c off len : Nat} {l : List SV} {e : TypeId} {ex : Bool} {bs : List Nat} (hn : σ.get n = some (.cells l e ex)) (he : env.blocks n = some (b, c)) (hk : off + len ≤ l.length)
    (hb : byteCells ((l.drop off).take len) = some bs) : bs.length = len ∧ BytesAt w b off bs := by
  have hd := byteCells_den (env := env) hb
  have hl := denL_length hd
  rw [List.length_map, List.length_map, List.length_take, List.length_drop, Nat.min_eq_left (by omega)] at hl
  refine ⟨hl, fun j x hx => ?_⟩
  have hj : j < bs.length := (List.getElem?_eq_some_iff.1 hx).1
  obtain ⟨v, hv, hc, _⟩ := h.cell hn he (List.getElem?_eq_getElem (show off + j < l.length by omega))
  obtain ⟨v', hv', hd'⟩ := denL_get hd (i := j) (s := l[off + j]) (by rw [List.getElem?_take, if_pos (by omega), List.getElem?_drop]; exact List.getElem?_eq_getElem (by omega))
  rw [hd'] at hv; cases hv
  rw [hc]
  rw [List.getElem?_map, List.getElem?_map, hx] at hv'
  exact hv'.symm
theorem run_loadBytes (b : Nat) : ∀ (bs : List Nat) (off : Nat) (acc : ByteArray), BytesAt w b off bs → (Extern.Bytes.loadBytes ⟨b, off, none⟩ bs.length acc).run P w = .ok ⟨acc.data ++ (bs.map UInt8.ofNat).toArray⟩ w := by
  intro bs
  induction bs with
  | nil => intro off acc _; simp [Extern.Bytes.loadBytes]
  | cons x r ih =>
    intro off acc h
    have h0 := h 0 x rfl
    rw [Nat.add_zero] at h0
    have hr : BytesAt w b (off + 1) r := fun j y hy => by
      have := h (j + 1) y (by simpa using hy)
      rw [show off + 1 + j = off + (j + 1) by omega]; exact this
    have hl : (load (⟨b, off, none⟩ : Addr)).run P w = .ok (.int .u8 ((UInt8.ofNat x).toNat : Nat)) w := by simp [h0]
    simp only [List.length_cons, Extern.Bytes.loadBytes, Sem.run_bind, hl, Result.andThen_ok, add_none]
    rw [ih (off + 1) _ hr]
    congr 2
    have hx : (((UInt8.ofNat x).toNat : Nat) : Int).toNat.toUInt8 = UInt8.ofNat x := by rw [Int.toNat_natCast]; exact UInt8.ofNat_toNat
    rw [hx]
    apply Array.ext'
    simp [ByteArray.push]
theorem run_bytesOf_slice (b off cap : Nat) (bs : List Nat) (h : BytesAt w b off bs) : (Extern.Bytes.bytesOf (.slice (some ⟨b, off, none⟩) bs.length cap)).run P w = .ok (bytesOf bs) w := by
  simp only [Extern.Bytes.bytesOf]
  rw [run_loadBytes b bs off .empty h]
  congr 1
  unfold _root_.Go.Proofs.YtdkindollljlnabGreatDoor.bytesOf
  congr 1
  show (#[] : Array UInt8) ++ _ = _
  simp
theorem run_compareSlices (b off cap b' off' cap' : Nat) (bs cs : List Nat) (h : BytesAt w b off bs) (h' : BytesAt w b' off' cs) :
    (Extern.BytealgCompare.compare #[.slice (some ⟨b, off, none⟩) bs.length cap, .slice (some ⟨b', off', none⟩) cs.length cap']).run P w = .ok (.int .i64 (cmpS bs cs)) w := by
  change Sem.run P (do pure (goInt (Extern.BytealgCompare.cmp (← Extern.Bytes.bytesOf (.slice (some ⟨b, off, none⟩) bs.length cap)) (← Extern.Bytes.bytesOf (.slice (some ⟨b', off', none⟩) cs.length cap'))))) w = _
  simp only [Sem.run_bind, run_bytesOf_slice b off cap bs h, run_bytesOf_slice b' off' cap' cs h', Sem.run_pure, Result.andThen]
  rw [Lib.cmp_eq, bytesOf_list, bytesOf_list, cmpS_ok]
  rfl
end

set_option maxRecDepth 100000 in
theorem bytesCompare_any (b off cap b' off' cap' : Nat) (bs cs : List Nat) (w : World) (h : BytesAt w b off bs) (h' : BytesAt w b' off' cs) :
    Calls Tryz.prog 82 #[.slice (some ⟨b, off, none⟩) bs.length cap, .slice (some ⟨b', off', none⟩) cs.length cap'] w fun e w' => e = .returned (.int .i64 (cmpS bs cs)) ∧ w' = w := by
  have hc := run_compareSlices (P := Tryz.prog) (w := w) b off cap b' off' cap' bs cs h h'
  generalize bs.length = m at hc ⊢
  generalize cs.length = n at hc ⊢
  generalize cmpS bs cs = r at hc ⊢
  go_enter Tryz.func82, Tryz.ntmps82
  go_wp2_with fail
  rw [run_callFunc_extern Tryz.func118 (by kernel_rfl) (by kernel_rfl) (by kernel_rfl) (e := Extern.BytealgCompare.compare) (by kernel_rfl), hc]
  simp only [Result.andThen]
  rw [Oper.upon_value]
  go_wp2_with fail
  go_ret
  exact ⟨rfl, rfl⟩

noncomputable def compareBOut (args : List SV) (σ : SH) : Option Outs := match args with
  | [.slice n off len _, .slice m off' len' _] => match σ.get n, σ.get m with
    | some (.cells l _ _), some (.cells k _ _) => match byteCells ((l.drop off).take len), byteCells ((k.drop off').take len') with
      | some bs, some cs => @Bool.rec (fun _ => Option Outs) none (some [(.int .i64 (cmpS bs cs), σ)]) (Nat.ble (off + len) l.length && Nat.ble (off' + len') k.length)
      | _, _ => none
    | _, _ => none
  | _ => none
theorem compareBOut_ok (b : Base) {args : List SV} {σ : SH} {outs : Outs} {env : Env} {w : World} {vs : List Value} (h : compareBOut args σ = some outs) (hr : Rel Tryz.prog b env σ w) (ha : denL env args = some vs) :
    Calls Tryz.prog 82 vs.toArray w (Comes1 Tryz.prog b env outs) := by
  unfold compareBOut at h
  split at h
  · rename_i n off len c m off' len' c'
    split at h
    · rename_i l e1 x1 k e2 x2 hn hm
      split at h
      · rename_i bs cs hbs hcs
        cases hc : (Nat.ble (off + len) l.length && Nat.ble (off' + len') k.length) with
        | false => rw [hc] at h; cases h
        | true =>
          rw [hc] at h
          replace h : some [(SV.int .i64 (cmpS bs cs), σ)] = some outs := h
          cases h
          rw [Bool.and_eq_true] at hc
          have k1 := Nat.le_of_ble_eq_true hc.1
          have k2 := Nat.le_of_ble_eq_true hc.2
          obtain ⟨v, us, h1, h2, rfl⟩ := denL_cons ha
          obtain ⟨v2, us2, h3, h4, rfl⟩ := denL_cons h2
          simp only [denL] at h4; cases h4
          obtain ⟨b1, q1, he1, rfl⟩ := den_slice h1
          obtain ⟨b2, q2, he2, rfl⟩ := den_slice h3
          obtain ⟨l1, hb1⟩ := hr.bytesAt hn he1 k1 hbs
          obtain ⟨l2, hb2⟩ := hr.bytesAt hm he2 k2 hcs
          subst l1; subst l2
          refine (bytesCompare_any b1 off _ b2 off' _ bs cs w hb1 hb2).mono ?_
          rintro e w' ⟨rfl, rfl⟩
          exact ⟨_, List.mem_singleton.2 rfl, env, _, rfl, Env.le_refl _, hr, by simp only [den]⟩
      · cases h
    · cases h
  · cases h

section
variable {P : Program} {w : World}
theorem run_indexSlice (b off cap : Nat) (bs : List Nat) (c : Nat) (hc : c < 256) (h : BytesAt w b off bs) :
    (Extern.BytealgIndexByte.indexByte #[.slice (some ⟨b, off, none⟩) bs.length cap, .int .u8 (c : Nat)]).run P w = .ok (.int .i64 (idxS c bs)) w := by
  have e := Lib.run_indexByteString (P := P) (bytesOf bs) (c : Nat) w
  have e2 : (Extern.BytealgIndexByte.indexByte #[.slice (some ⟨b, off, none⟩) bs.length cap, .int .u8 (c : Nat)]).run P w = (Extern.BytealgIndexByte.indexByte #[.string (bytesOf bs), .int .u8 (c : Nat)]).run P w := by
    change Sem.run P (do
      let b' ← Extern.Bytes.bytesOf (.slice (some ⟨b, off, none⟩) bs.length cap)
      let c' ← Extern.Bytes.asByte (.int .u8 (c : Nat))
      match (List.range b'.size).find? fun i => b'[i]! == c' with
      | some i => pure (goInt i)
      | none => pure (goInt (-1))) w = Sem.run P (do
      let b' ← Extern.Bytes.bytesOf (.string (bytesOf bs))
      let c' ← Extern.Bytes.asByte (.int .u8 (c : Nat))
      match (List.range b'.size).find? fun i => b'[i]! == c' with
      | some i => pure (goInt i)
      | none => pure (goInt (-1))) w
    have e3 : (Extern.Bytes.bytesOf (.string (bytesOf bs))).run P w = .ok (bytesOf bs) w := by simp only [Extern.Bytes.bytesOf, Sem.run_pure]
    simp only [Sem.run_bind, run_bytesOf_slice b off cap bs h, e3]
  rw [e2, e, ← idxS_ok c hc bs]
  rfl
end
set_option maxRecDepth 100000 in
theorem bytesIndex_any (b off cap : Nat) (bs : List Nat) (c : Nat) (hc : c < 256) (w : World) (h : BytesAt w b off bs) :
    Calls Tryz.prog 235 #[.slice (some ⟨b, off, none⟩) bs.length cap, .int .u8 (c : Nat)] w fun e w' => e = .returned (.int .i64 (idxS c bs)) ∧ w' = w := by
  have hx := run_indexSlice (P := Tryz.prog) (w := w) b off cap bs c hc h
  generalize bs.length = m at hx ⊢
  generalize idxS c bs = r at hx ⊢
  generalize ((c : Nat) : Int) = ci at hx ⊢
  go_enter Tryz.func235, Tryz.ntmps235
  go_wp2_with fail
  rw [run_callFunc_extern Tryz.func266 (by kernel_rfl) (by kernel_rfl) (by kernel_rfl) (e := Extern.BytealgIndexByte.indexByte) (by kernel_rfl), hx]
  simp only [Result.andThen]
  rw [Oper.upon_value]
  go_wp2_with fail
  go_ret
  exact ⟨rfl, rfl⟩
noncomputable def indexBOut (args : List SV) (σ : SH) : Option Outs := match args with
  | [.slice n off len _, .int .u8 (.ofNat c)] => match σ.get n with
    | some (.cells l _ _) => match byteCells ((l.drop off).take len) with
      | some bs => @Bool.rec (fun _ => Option Outs) none (some [(.int .i64 (idxS c bs), σ)]) (Nat.ble (off + len) l.length && Nat.blt c 256)
      | none => none
    | _ => none
  | _ => none
theorem indexBOut_ok (b : Base) {args : List SV} {σ : SH} {outs : Outs} {env : Env} {w : World} {vs : List Value} (h : indexBOut args σ = some outs) (hr : Rel Tryz.prog b env σ w) (ha : denL env args = some vs) :
    Calls Tryz.prog 235 vs.toArray w (Comes1 Tryz.prog b env outs) := by
  unfold indexBOut at h
  split at h
  · rename_i n off len cp c
    split at h
    · rename_i l e1 x1 hn
      split at h
      · rename_i bs hbs
        cases hc : (Nat.ble (off + len) l.length && Nat.blt c 256) with
        | false => rw [hc] at h; cases h
        | true =>
          rw [hc] at h
          replace h : some [(SV.int .i64 (idxS c bs), σ)] = some outs := h
          cases h
          rw [Bool.and_eq_true] at hc
          have k1 := Nat.le_of_ble_eq_true hc.1
          have k2 : c < 256 := Nat.le_of_ble_eq_true hc.2
          obtain ⟨v, us, h1, h2, rfl⟩ := denL_cons ha
          obtain ⟨v2, us2, h3, h4, rfl⟩ := denL_cons h2
          simp only [denL] at h4; cases h4
          simp only [den, Option.some.injEq] at h3; subst h3
          obtain ⟨b1, q1, he1, rfl⟩ := den_slice h1
          obtain ⟨l1, hb1⟩ := hr.bytesAt hn he1 k1 hbs
          subst l1
          refine (bytesIndex_any b1 off _ bs c k2 w hb1).mono ?_
          rintro e w' ⟨rfl, rfl⟩
          exact ⟨_, List.mem_singleton.2 rfl, env, _, rfl, Env.le_refl _, hr, by simp only [den]⟩
      · cases h
    · cases h
  · cases h

end Go.Proofs.YtdkindollljlnabGreatDoor

