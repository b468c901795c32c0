/-
  slices.AppendSeq(nil, keys) and slices.Collect(keys) for an iterator that gives one id; then slices.Collect(maps.Keys) of a map of one entry as the executor's summary.
-/
import Derived.Test.YtnlijlabkoefbaaGreatDoorKeysC
import Derived.Test.YtnlijlabkoefbaaGreatDoorExec
import Derived.Test.YtnlijlabkoefbaaGreatDoorFrame
set_option linter.unusedVariables false
set_option linter.unusedSimpArgs false
namespace Go.Proofs.YtnlijlabkoefbaaGreatDoor
open Go Go.RowKit Go.Shelf Go.Maps

attribute [local go_sem] Oper.semAt_some

set_option maxRecDepth 100000 in
set_option maxHeartbeats 2000000 in
theorem appendSeq_in (F : Fence) (n : Nat) (h11 : F.fn 90) (hro : F.round = none) (hn : 2 ≤ n) (kc : Array Value) (hkc : kc.size = 20) (hk1 : kc.all (·.oneCell') = true) (g : Nat) (lb : Array Value) (hFg : F.fn g) (eg : ∀ args w, (callFunc g args).run Tryz.prog w = .ok (.enter g args) w)
    (w : World) (hseq : SeqGives (α := Unit) F (n - 1) Tryz.prog g lb (fun _ => .agg kc) (fun xs => xs = [()]) 1 w) :
    CallsIn F n Tryz.prog 90 #[.slice none 0 0, .func (.func g) #[] lb] w fun e w' => ∃ v, e = .returned v ∧ w'.ownsRow w.heap.size 26 20 v 1 kc.toList ∧ Below w.heap.size w w' := by
  have h1 : 1 ≤ n := by omega
  refine callsIn_of_wp_marks Tryz.func90 rfl h11 ?_ hro
  simp only [Tryz.ntmps90, List.size_toArray, List.length_cons, List.length_nil, Nat.reduceAdd, Nat.reduceSub, Array.replicate_succ, Array.replicate_zero, List.push_toArray, List.append_toArray, List.nil_append, List.cons_append]
  gi_wp2
  refine wpIn_rangeFunc ?_
  intro fn hfn
  rw [hro]
  obtain ⟨W0, hW0⟩ : ∃ W0, w.alloc (.cells #[.slice none 0 0] 36) = W0 := ⟨_, rfl⟩
  have hs0 : W0.heap.size = w.heap.size + 1 := by rw [← hW0]; simp
  have hv0 : W0.heap[w.heap.size]? = some (.cells #[.slice none 0 0] 36 (0, 0)) := by rw [← hW0]; exact World.alloc_heap_new w _
  have hb0 : Below w.heap.size w W0 := by rw [← hW0]; exact (Below.refl _ w).alloc (Nat.le_refl _) _
  rw [hW0]
  obtain ⟨W1, hW1⟩ : ∃ W1, (W0.alloc (.deferred (some []))).alloc (.loop (apRec fn (.func (.func g) #[] lb) w.heap.size W0.heap.size .ready none)) = W1 := ⟨_, rfl⟩
  have hold : ∀ k, k < W0.heap.size → W1.heap[k]? = W0.heap[k]? := fun k hk => by
    rw [← hW1]; exact (Below.heap_alloc _ _ k (by simp; omega)).trans (Below.heap_alloc _ _ k hk)
  have hb1 : Below w.heap.size w W1 := by rw [← hW1]; exact (hb0.alloc hb0.size _).alloc (by have := hb0.size; simp; omega) _
  have hs1 : W1.heap.size = W0.heap.size + 2 := by rw [← hW1]; simp
  have hM : ApAt w kc fn (.func (.func g) #[] lb) w.heap.size (W0.heap.size + 1) W0.heap.size [] W1 :=
    ⟨⟨_, (hold w.heap.size (by omega)).trans hv0, ⟨rfl, .inl ⟨rfl, rfl⟩⟩, by simp⟩,
     by rw [← hW1]; have := World.alloc_heap_new (W0.alloc (.deferred (some []))) (.loop (apRec fn (.func (.func g) #[] lb) w.heap.size W0.heap.size .ready none)); rwa [World.size_alloc] at this,
     by rw [← hW1]; exact (Below.heap_alloc _ _ _ (by simp)).trans (World.alloc_heap_new W0 _), hb1⟩
  refine ⟨W0.heap.size + 1, [{ target := .collected W0.heap.size, args := #[] }], W1, { target := .fn (.func g) lb, args := #[.func (.yield (W0.heap.size + 1)) #[] #[]] }, W1, g,
    #[.func (.yield (W0.heap.size + 1)) #[] #[]] ++ lb, W1, ?_, ?_, ?_, ?_, fun _ => h1, ?_⟩
  · rw [← hW1]; exact run_enterLoop_outer _ _ _ _ _
  · simp [resolve, go_sem]
  · intro f' hf'; simp [Target.leads] at hf'; subst hf'; exact hFg
  · simp [invoke, go_sem, eg]
  · refine (hseq (W0.heap.size + 1) (ApAt w kc fn (.func (.func g) #[] lb) w.heap.size (W0.heap.size + 1) W0.heap.size) W1 hb1 (ap_abides _ _ _ _ _ _ _ _ hb1.size)
      (fun pre x W hJ hl => apYield F (n - 1 - 1) w kc hkc hk1 fn hfn _ w.heap.size (W0.heap.size + 1) W0.heap.size (by omega) (by omega) (by omega) (Nat.le_refl _) (by omega) pre x W hJ hl) hM).mono ?_
    rintro e W2 ⟨⟨v0, rfl⟩, ss, rfl, h2⟩
    obtain ⟨v, hv, hrow, hnil⟩ := h2.box
    have hend := run_endLoop (P := Tryz.prog) h2.L (by simp [apRec])
    obtain ⟨W3, hW3⟩ : ∃ W3, W2.putObj (W0.heap.size + 1) (.loop { apRec fn (.func (.func g) #[] lb) w.heap.size W0.heap.size .ready none with state := .exhausted }) = W3 := ⟨_, rfl⟩
    rw [hW3] at hend
    have hg3 : W2.grownBy W3 (some (W0.heap.size + 1)) := by rw [← hW3]; exact grownBy_putObj' _ _ _
    have hv3 : W3.heap[w.heap.size]? = some (.cells #[v] 36 (0, 0)) := by rw [← hW3]; exact (World.putObj_heap_other (by omega)).trans hv
    have hK3 : W3.heap[W0.heap.size]? = some (.deferred (some [])) := by rw [← hW3]; exact (World.putObj_heap_other (by omega)).trans h2.K
    have hrow3 := hrow.kept hg3 (ownsRow_ne_q hrow h2.L (fun cur e => by cases e))
    have hb3 : Below w.heap.size w W3 := h2.below.grown hg3 h2.below.size (fun k e => by cases e; omega)
    obtain ⟨hc3, hf3⟩ := cell_of_box_q hv3
    clear hW3
    refine ⟨none, W3, hend, ?_⟩
    gi_wp2
    rw [← hs0]
    refine ⟨by simp, .inl ⟨_, _, rfl, run_takeDeferred hK3, ?_⟩⟩
    refine ⟨_, results_tmp rfl _ _ _, v, rfl, ?_, hb3.grown (grownBy_putObj' _ _ _) hb3.size (fun k e => by cases e; omega)⟩
    have := hrow3.kept (grownBy_putObj' W3 W0.heap.size (.deferred none)) (ownsRow_ne_q hrow3 hK3 (fun cur e => by cases e))
    simpa using this

theorem collect_in (F : Fence) (n : Nat) (h8 : F.fn 59) (h11 : F.fn 90) (hro : F.round = none) (hn : 3 ≤ n) (kc : Array Value) (hkc : kc.size = 20) (hk1 : kc.all (·.oneCell') = true) (g : Nat) (lb : Array Value) (hFg : F.fn g) (eg : ∀ args w, (callFunc g args).run Tryz.prog w = .ok (.enter g args) w)
    (w : World) (hseq : SeqGives (α := Unit) F (n - 1 - 1) Tryz.prog g lb (fun _ => .agg kc) (fun xs => xs = [()]) 1 w) :
    CallsIn F n Tryz.prog 59 #[.func (.func g) #[] lb] w fun e w' => ∃ v, e = .returned v ∧ w'.ownsRow w.heap.size 26 20 v 1 kc.toList ∧ Below w.heap.size w w' := by
  have h1 : 1 ≤ n := by omega
  refine callsIn_of_wp Tryz.func59 rfl h8 ?_ hro
  simp only [Tryz.ntmps59, List.size_toArray, List.length_cons, List.length_nil, Nat.reduceAdd, Nat.reduceSub, Array.replicate_succ, Array.replicate_zero, List.push_toArray, List.append_toArray, List.nil_append, List.cons_append]
  gi_wp2_with (gi_at_call 90; refine (appendSeq_in F (n - 1) h11 hro (by omega) kc hkc hk1 g lb hFg eg _ hseq).mono ?_; rintro e w' ⟨v, rfl, hrow, hb⟩)
  gi_wp2
  refine bodyPost_ret (results_tmp rfl _ _ _) rfl ?_
  exact ⟨v, rfl, hrow, hb⟩

theorem collect_one (w : World) (Bm b : Nat) (e : MapEntry) (kc : Array Value) (hk : kc.size = 20) (hk1 : kc.all (·.oneCell') = true) (hek : e.key = .agg kc) (heb : e.born = 0) (hBm : Bm < w.heap.size)
    (hm : w.cell? ⟨Bm, 0, none⟩ = some (.map (some b))) (hown : w.heap[b]? = some (.map #[e] 1)) :
    Calls Tryz.prog 59 #[.func (.func 61) #[] #[.pointer (some ⟨Bm, 0, none⟩)]] w fun e w' => ∃ v, e = .returned v ∧ w'.ownsRow w.heap.size 26 20 v 1 kc.toList ∧ Below w.heap.size w w' :=
  callsIn_wide.1 (collect_in Fence.wide 3 trivial trivial rfl (Nat.le_refl _) kc hk hk1 _ _ trivial (enters_of Tryz.func61 (by kernel_rfl) rfl) w
    (keys_one_gives Fence.wide 1 trivial rfl (Nat.le_refl _) Bm b e kc hk hk1 hek heb w hBm hm hown))

section
variable {P : Program} {w0 : Base} {env : Env} {σ : SH} {w : World}
/-- A block that a call has made. -/
theorem Rel.adopt {w' : World} {so : SO} {g c : Nat} (h : Rel P w0 env σ w) (hb : Below w.heap.size w w') (hg : w.heap.size ≤ g) (ho : ORel P (env.push σ.next g c) w' g c so) : Rel P w0 (env.push σ.next g c) (σ.push so) w' := by
  have hnew := Env.new env σ.next g c
  have hle := h.le_push g c
  have h' := h.world hb
  have key : ∀ n y, (σ.push so).get n = some y → (n = σ.next ∧ y = so) ∨ (n ≠ σ.next ∧ σ.get n = some y) := fun n y hy => SH.get_push hy
  refine ⟨h'.below, rfl, fun n hn => ?_, fun n y hy => ?_, fun n m y z x1 y1 hne hy hz hx1 hy1 => ?_⟩
  · have hn : σ.next + 1 ≤ n := hn
    rw [Env.push_ne _ _ _ (by omega)]; exact h.fresh n (by omega)
  · rcases key n y hy with ⟨rfl, rfl⟩ | ⟨hn, hy⟩
    · refine ⟨_, _, hnew, fun hk => ?_, ho⟩
      have := (h.below.block _ hk).1
      have := h.below.size
      omega
    · obtain ⟨b, c', h1, h2, h3⟩ := h'.obj n y hy
      exact ⟨b, c', hle.some n _ h1, h2, h3.mono hle rfl⟩
  · have old : ∀ k x, k ≠ σ.next → (∃ u, σ.get k = some u) → (env.push σ.next g c).blocks k = some x → x.1 < w.heap.size ∧ env.blocks k = some x := fun k x hk ⟨u, hu⟩ hx => by
      obtain ⟨b, c', h1, h2, h3⟩ := h.obj k u hu
      rw [Env.push_ne _ _ _ hk] at hx
      rw [hx] at h1; cases h1
      exact ⟨h3.lt, hx⟩
    rcases key n y hy with ⟨rfl, rfl⟩ | ⟨hn, hy'⟩ <;> rcases key m z hz with ⟨rfl, rfl⟩ | ⟨hm, hz'⟩
    · exact absurd rfl hne
    · have := (old m y1 hm ⟨_, hz'⟩ hy1).1
      rw [hnew] at hx1; cases hx1; simp only; omega
    · have := (old n x1 hn ⟨_, hy'⟩ hx1).1
      rw [hnew] at hy1; cases hy1; simp only; omega
    · exact h.apart n m y z x1 y1 hne hy' hz' (old n x1 hn ⟨_, hy'⟩ hx1).2 (old m y1 hm ⟨_, hz'⟩ hy1).2
end

def allInt : List SV → Bool
  | [] => true
  | .int _ _ :: r => allInt r
  | _ :: _ => false
theorem allInt_one {env : Env} : ∀ {l : List SV} {vs : List Value}, allInt l = true → denL env l = some vs → ∀ v ∈ vs, v.oneCell' = true := by
  intro l
  induction l with
  | nil => intro vs _ h; simp only [denL] at h; cases h; simp
  | cons x r ih =>
    intro vs ha h
    obtain ⟨v, us, h1, h2, rfl⟩ := denL_cons h
    cases x <;> simp only [allInt, Bool.false_eq_true] at ha
    simp only [den, Option.some.injEq] at h1; subst h1
    intro u hu
    rcases List.mem_cons.1 hu with rfl | hu
    · rfl
    · exact ih ha h2 u hu

/-- slices.Collect over maps.Keys of a map of one entry, in the executor. -/
noncomputable def collectOut (args : List SV) (σ : SH) : Option Outs := match args with
  | [.fn (.func g) [] [.ptr x 0]] => (match σ.get x with
    | some (.cells [.map m] _ _) => (match σ.get m with
      | some (.map [(.agg ks, _)]) => bif Nat.beq g 61 && Nat.beq ks.length 20 && allInt ks then some [(.slice σ.next 0 1 (.rest 0), σ.push (.cells ks 26 false))] else none
      | _ => none)
    | _ => none)
  | _ => none
theorem collectOut_ok (b0 : Base) {args : List SV} {σ : SH} {outs : Outs} {env : Env} {w : World} {vs : List Value} (h : collectOut args σ = some outs) (ho : env.ones) (hr : Rel Tryz.prog b0 env σ w) (ha : denL env args = some vs) :
    Calls Tryz.prog 59 vs.toArray w (Comes1 Tryz.prog b0 env outs) := by
  unfold collectOut at h
  split at h
  · rename_i g x
    split at h
    · rename_i m e1 x1 hx
      split at h
      · rename_i ks u hm
        cases hc : (Nat.beq g 61 && Nat.beq ks.length 20 && allInt ks) with
        | false => rw [hc] at h; cases h
        | true =>
          rw [hc] at h
          replace h : some [(SV.slice σ.next 0 1 (.rest 0), σ.push (.cells ks 26 false))] = some outs := h
          cases h
          simp only [Bool.and_eq_true] at hc
          obtain ⟨⟨hg, hlen⟩, hint⟩ := hc
          have hg := Nat.eq_of_beq_eq_true hg
          have hlen := Nat.eq_of_beq_eq_true hlen
          subst hg
          obtain ⟨bx, cx, hbx, _, hOx⟩ := hr.obj x _ hx
          obtain ⟨bm, cm, hbm, _, hOm⟩ := hr.obj m _ hm
          obtain ⟨cur, t, fr, us, hcur, hth, hus, htake, _⟩ := hOx
          obtain ⟨ents, clock, kvs, vvs, hents, hkv, hvv, hkeys, hvals, hclock, hborn⟩ := hOm
          obtain rfl : us = [.map (some bm)] := by
            obtain ⟨v, us', h1, h2, rfl⟩ := denL_cons hus
            obtain ⟨bm2, k2, h3, rfl⟩ := den_map h1
            rw [hbm] at h3; cases h3
            simp only [denL] at h2; cases h2; rfl
          obtain ⟨kv, us', h1, h2, rfl⟩ := denL_cons (show denL env [.agg ks] = some kvs from hkv)
          simp only [denL] at h2; cases h2
          obtain ⟨kc, hkc, rfl⟩ := den_agg h1
          have hkl : kc.length = 20 := (denL_length hkc).trans hlen
          have hone := allInt_one hint hkc
          obtain ⟨ent, rfl⟩ : ∃ ent, ents = #[ent] := by
            obtain ⟨l⟩ := ents
            match l, congrArg List.length hkeys with
            | [ent], _ => exact ⟨ent, rfl⟩
          have hek : ent.key = .agg kc.toArray := by simpa using hkeys
          have heb : ent.born = 0 := hborn 0 ent rfl
          obtain rfl : clock = 1 := hclock
          have hBm : bx < w.heap.size := (Array.getElem?_eq_some_iff.1 hcur).1
          have hcell : w.cell? ⟨bx, 0, none⟩ = some (.map (some bm)) := by
            rw [cell_of_row w bx 0 cur t fr hcur]
            have := congrArg (·[0]?) htake
            simpa using this
          obtain rfl : vs = [.func (.func 61) #[] #[.pointer (some ⟨bx, 0, none⟩)]] := by
            obtain ⟨v, us', h1, h2, rfl⟩ := denL_cons ha
            simp only [denL] at h2; cases h2
            simp only [den, denL, hbx, Option.some.injEq] at h1
            subst h1; rfl
          refine (collect_one w bx bm ent kc.toArray (by simpa using hkl) (by simpa using hone) hek heb hBm hcell hents).mono ?_
          rintro en w' ⟨v, rfl, hrow, hb⟩
          obtain ⟨g', cap', cur', rfl, hbase', hgb', hr1, hr2, hr3, hr4⟩ : ∃ g' cap' cur', v = .slice (some ⟨g', 0, none⟩) 1 cap' ∧ w.heap.size ≤ g' ∧ w'.heap[g']? = some (.cells cur' 26 (0, 0)) ∧ 1 ≤ cap' ∧ cap' ≤ maxLen ∧ cur'.size = cap' * 20 ∧ cur'.toList.take 20 = kc := by
            rcases hrow.2 with ⟨_, h0⟩ | h'
            · exact absurd h0 (by omega)
            · simpa using h'
          have hnew := Env.new env σ.next g' cap'
          have hle := hr.le_push g' cap'
          have hsz : cur'.size = cap' * Tryz.prog.cellsOf 26 := hr3.trans (congrArg (cap' * ·) (by kernel_rfl))
          have hO : ORel Tryz.prog (env.push σ.next g' cap') w' g' cap' (.cells ks 26 false) :=
            ⟨cur', 26, (0, 0), kc, hgb', thawed_zero _, denL_mono hle _ _ hkc, by rw [hlen]; exact hr4, fun hx => absurd hx (by decide), fun _ => ⟨hsz, hr2⟩⟩
          exact ⟨_, List.mem_singleton.2 rfl, env.push σ.next g' cap', _, rfl, hle, hr.adopt hb hbase' hO, by simp only [den, hnew, capOf]; rfl⟩
      · cases h
    · cases h
  · cases h
end Go.Proofs.YtnlijlabkoefbaaGreatDoor
