/-
  THE EXECUTOR, part V: bytes as bytes (the conversion that marks a row).
-/
import Derived.Test.YthenjjonphoklaaGreatDoorSymU
set_option linter.unusedVariables false
set_option linter.unusedSimpArgs false
namespace Go.Proofs.YthenjjonphoklaaGreatDoor
open Go Go.RowKit

variable {P : Program} {w0 : Base} {env : Env} {σ : SH} {w : World}

theorem freeze_heap {b n : Nat} {cur : Array Value} {t : TypeId} {fr : Nat × Nat} (h : w.heap[b]? = some (.cells cur t fr)) :
    (w.freeze ⟨b, n, none⟩ 1).heap[b]? = some (.cells cur t (if fr.1 == fr.2 then (n, n + 1) else (min fr.1 n, max fr.2 (n + 1)))) ∧ (∀ k, k ≠ b → (w.freeze ⟨b, n, none⟩ 1).heap[k]? = w.heap[k]?) := by
  obtain ⟨lo, hi⟩ := fr
  unfold World.freeze
  rw [if_neg (by decide)]
  refine ⟨?_, fun k hk => ?_⟩
  · simp only [Array.getElem?_modify, if_true, h, Option.map_some]
  · simp only [Array.getElem?_modify, if_neg (Ne.symm hk)]

noncomputable def sConvert2 (P : Program) (σ : SH) (S D : TypeId) (x : SV) : Option SR := match x with
  | .slice n off len c => match P.underlying S, P.underlying D with
    | some (.slice _), some (.slice e) => match P.underlying e with
      | some (.int .u8) => if S = D then (match σ.get n with
        | some (.cells l e' ex) => some (.val (.slice n off len c) (σ.put n (some (.cells l e' ex))))
        | _ => none) else none
      | _ => none
    | _, _ => sConvert P σ S D (.slice n off len c)
  | x => sConvert P σ S D x
theorem sConvert2_ok (h : Rel P w0 env σ w) {S D : TypeId} {x : Operand} {a : SV} {r : SR} (hs : sConvert2 P σ S D a = some r) {ρ : Operand → Value} (hd : den env a = some (ρ x)) (d : Option Tmp) (ty : TypeId) (pos : String) (af : Array Edge) (g : Option (Nat × Bool)) :
    Outcome P w0 env ((execOp ρ ⟨d, .convert S D x, ty, pos, af, g⟩).run P w) r := by
  unfold sConvert2 at hs
  split at hs
  · rename_i n off len c
    split at hs
    · rename_i e0 e hS hD
      split at hs
      · rename_i he
        split at hs
        · rename_i hSD; subst hSD
          rw [hS] at hD; cases hD
          split at hs
          · rename_i l e' ex hn; cases hs
            obtain ⟨b, k, hb, hv⟩ := den_slice hd
            obtain ⟨b', c', q1, q2, cur, t, fr, vs, g1, g2, g3, g4, g5, g6⟩ := h.obj n _ hn
            rw [hb] at q1; cases q1
            obtain ⟨f1, f2⟩ := freeze_heap (n := cur.size) g1
            have hmark : (markStringish ⟨b, off, none⟩).run P w = .ok () (w.freeze ⟨b, cur.size, none⟩ 1) := by
              simp [markStringish, shape, freeze, Sem.run, World.shape?, g1]
            refine ⟨env, ρ x, w.freeze ⟨b, cur.size, none⟩ 1, .inl ?_, Env.le_refl _, h.put hn hb rfl rfl rfl ?_ (fun q _ hq => f2 q hq) (fun o' ho' => ?_), ?_⟩
            · rw [hv]
              simp [execOp, convert, run_underlying hS, run_underlying he, hv, hmark]
            · unfold World.freeze; rw [if_neg (by decide)]; simp
            · cases ho'
              refine ⟨cur, t, _, vs, f1, ?_, g3, g4, g5, g6⟩
              split
              · exact .inr (Nat.le_refl _)
              · rename_i hne
                right
                rcases g2 with g2 | g2
                · exact absurd (by simpa using g2) hne
                · simp only; omega
            · exact hd
          · cases hs
        · cases hs
      · cases hs
    · exact sConvert_ok h hs hd d ty pos af g
  · exact sConvert_ok h hs hd d ty pos af g
end Go.Proofs.YthenjjonphoklaaGreatDoor
