/-
  THE EXECUTOR, part J: append is sound.
-/
import Derived.Test.YthenjjonphoklaaGreatDoorSymI
set_option linter.unusedVariables false
set_option linter.unusedSimpArgs false
namespace Go.Proofs.YthenjjonphoklaaGreatDoor
open Go Go.RowKit

variable {P : Program} {w0 : Base} {env : Env} {σ : SH} {w : World}

theorem Rel.setCells (ho : env.ones) (h : Rel P w0 env σ w) {n b c off : Nat} {l news : List SV} {e : TypeId} {ex : Bool} {vs : List Value} (hn : σ.get n = some (.cells l e ex)) (he : env.blocks n = some (b, c))
    (hle : off + news.length ≤ l.length) (hone : news.all oneS = true) (hd : denL env news = some vs) :
    (storeCells ⟨b, off, none⟩ vs 0).run P w = .ok () (w.setCells b off vs) ∧ Rel P w0 env (σ.put n (some (.cells (patch l off news) e ex))) (w.setCells b off vs) := by
  have hlen := denL_length hd
  have h1 := allOne ho hone hd
  obtain ⟨b', c', e1, h2, cur, t, fr, us, g1, g2, g3, g4, g5, g6⟩ := h.obj n _ hn
  rw [he] at e1; cases e1
  have hsz : l.length ≤ cur.size := by
    have := congrArg List.length g4
    rw [List.length_take, denL_length g3] at this
    simp at this; omega
  have hrun := run_storeCells_cells (P := P) b off vs 0 w (fun j hj => by
      rw [Nat.add_zero]
      obtain ⟨x, _, hx, _⟩ := h.cell hn he (List.getElem?_eq_getElem (show off + j < l.length by omega))
      rw [hx]; rfl) (fun j hj => by
      rw [Nat.add_zero]
      obtain ⟨x, _, _, hx⟩ := h.cell hn he (List.getElem?_eq_getElem (show off + j < l.length by omega))
      exact hx) h1
  rw [Nat.add_zero] at hrun
  obtain ⟨cur', q1, q2, q3, q4, q5, q6, q7⟩ := setCells_heap b vs off w cur t fr g1 (by omega)
  have hsize : cur'.size = cur.size := by
    have := congrArg List.length q2
    unfold patchV at this
    simp only [Array.length_toList, List.length_append, List.length_take, List.length_drop] at this
    omega
  refine ⟨hrun, h.put hn he q5 q6 q7 (by omega) (fun k _ hk => q4 k hk) (fun o' ho' => ?_)⟩
  cases ho'
  refine ⟨cur', t, fr, patchV us off vs, q1, by rw [hsize]; exact g2, patch_den g3 hd, ?_, fun hx => ?_, fun hx => ?_⟩
  · rw [patch_length hle, q2, patchV_take (by omega) (by simpa using hsz), g4]
  · rw [hsize, patch_length hle]; exact g5 hx
  · rw [hsize]; exact g6 hx

theorem fits_ok {e : TypeId} {n : Nat} {i : TypeInfo} (h : fits P e n = true) (hi : P.info? e = some i) : n ≤ 1099511627776 ∧ n * i.bytes ≤ 140737488355328 := by
  unfold fits at h
  rw [hi] at h
  simpa using h

theorem sAppend_ok (ho : env.ones) (h : Rel P w0 env σ w) {T T' ty : TypeId} {s x : SV} {r : SR} (hs : sAppend P σ T T' s x = some r) {v u : Value} (hd : den env s = some v) (hx : den env x = some u) :
    ∃ t σ' env' v' w', r = .val t σ' ∧ (Builtin.append_ #[T, T'] ty #[v, u]).run P w = .ok v' w' ∧ env.le env' ∧ Rel P w0 env' σ' w' ∧ den env' t = some v' := by
  unfold sAppend at hs
  simp only [sAppendOut, lenR_eq, takeR_eq, dropR_eq, appR_eq, allR_eq, mapR_eq] at hs
  split at hs
  · rename_i e ht
    split at hs
    · rename_i z zs hz hzs
      split at hs
      · rename_i hc
        simp only [Bool.and_eq_true, decide_eq_true_eq, beq_iff_eq] at hc
        obtain ⟨c1, c2⟩ := hc
        obtain ⟨i, hi, hiz⟩ := ssize_info hz
        obtain ⟨i', zv, hi', hzero, hdz⟩ := szero_info (env := env) hzs
        rw [hi] at hi'; cases hi'
        have hzsz : zv.cells.size = i.size := by
          have := denL_length (cellsS_den ho hdz)
          simp at this; omega
        subst hiz
        split at hs
        · rename_i m news hg
          obtain ⟨D, vn, hD, hdn, hln, gift⟩ := sGift_ok h hg hx
          have hnl := denL_length hdn
          split at hs
          -- nil
          · simp only [den, Option.some.injEq] at hd; subst hd
            split at hs
            · rename_i hm; cases hs; subst hm
              refine ⟨_, _, env, .slice none 0 0, w, rfl, ?_, Env.le_refl _, h, rfl⟩
              have := gift.len
              have hc2 := gift.cells
              rcases gift.kind with ⟨e', rfl⟩ | rfl <;> simp [Builtin.append_, run_underlying ht, run_underlying hD, sizeOf, typeInfo, hi, this, hc2]
            · rename_i hm
              split at hs
              · rename_i hf; cases hs
                obtain ⟨f1, f2⟩ := fits_ok hf hi
                have hrun := append_out (ty := ty) (olds := []) (base := none) (sl := 0) (sc := 0) ht hi hzero hD gift (by simp [Builtin.firstCells]) (by omega) (by omega) (by rw [Nat.zero_add]; exact f2)
                simp only [Nat.zero_add] at hrun
                have hge := grownCap_ge w m 0 e
                have hm2 := grownCap_le_maxLen w m 0 e (by unfold maxLen; omega)
                have hrel := grown_den (k := 0) ho h (olds := []) (vo := []) hi hzsz rfl hdn (by simpa using hln) hge hm2
                exact ⟨_, _, _, _, _, rfl, hrun, h.le_push _ _, hrel, by simp only [den, Env.new, capOf]; rfl⟩
              · cases hs
          -- a known capacity
          · rename_i n off len c
            obtain ⟨b, k, he, rfl⟩ := den_slice hd
            simp only [capOf]
            split at hs
            · rename_i l e' ex hn
              split at hs
              · rename_i hroom
                split at hs
                · rename_i hh; cases hs
                  simp only [Bool.and_eq_true, decide_eq_true_eq] at hh
                  obtain ⟨r1, r2⟩ := h.setCells ho hn he (off := off + len * i.size) hh.1 hh.2 hdn
                  have hrun := append_in (ty := ty) (a := ⟨b, off, none⟩) ht hi hD gift hroom (by rw [add_none]; exact r1)
                  exact ⟨_, _, env, _, _, rfl, hrun, Env.le_refl _, r2, by simp only [den, he, capOf]⟩
                · cases hs
              · rename_i hroom
                split at hs
                · rename_i hh; cases hs
                  simp only [Bool.and_eq_true, decide_eq_true_eq] at hh
                  obtain ⟨f1, f2⟩ := fits_ok hh.2 hi
                  obtain ⟨vo, o1, o2, o3⟩ := h.drew.loadCells hn he hh.1
                  have hrun := append_out (ty := ty) (olds := vo) (base := some ⟨b, off, none⟩) (sl := len) (sc := c) ht hi hzero hD gift (by simp only [Builtin.firstCells]; exact o3) (by omega) (by omega) f2
                  have hge := grownCap_ge w (len + m) c e
                  have hm2 := grownCap_le_maxLen w (len + m) c e (by unfold maxLen; omega)
                  have hrel := grown_den (k := 0) ho h hi hzsz o1 hdn (by rw [List.length_append, o2, hln, Nat.add_mul]) hge hm2
                  exact ⟨_, _, _, _, _, rfl, hrun, h.le_push _ _, hrel, by simp only [den, Env.new, capOf]; rfl⟩
                · cases hs
            · cases hs
          -- an unknown capacity
          · rename_i n off len d
            obtain ⟨b, k, he, rfl⟩ := den_slice hd
            split at hs
            · rename_i l e' ex hn
              split at hs
              · rename_i hh
                obtain ⟨rfl, rfl, rfl, ⟨hcell, hee⟩, hle, hone⟩ := hh
                subst hee
                obtain ⟨b', c', e1, hb, cur, t, fr, us, g1, g2, g3, g4, g5, g6⟩ := h.obj n _ hn
                rw [he] at e1; cases e1
                obtain ⟨s1, s2⟩ := g6 rfl
                rw [hcell] at s1
                have hsz : l.length ≤ cur.size := by
                  have := congrArg List.length g4
                  rw [List.length_take, denL_length g3] at this
                  simp at this; omega
                simp only [capOf, Nat.sub_zero]
                split at hs
                · rename_i hin; cases hs
                  have hroom : len + m ≤ k := by
                    have : (len + m) * i.size ≤ k * i.size := by omega
                    exact Nat.le_of_mul_le_mul_right this c1
                  obtain ⟨r1, r2⟩ := h.setCells ho hn he (off := len * i.size) (by rw [← hnl, hln, ← Nat.add_mul]; exact hin) hone hdn
                  have hrun := append_in (ty := ty) (a := ⟨b, 0, none⟩) ht hi hD gift hroom (by rw [add_none, Nat.zero_add]; exact r1)
                  exact ⟨_, _, env, _, _, rfl, hrun, Env.le_refl _, r2, by simp only [den, he, capOf, Nat.sub_zero]⟩
                · rename_i hin
                  split at hs
                  · rename_i hf; cases hs
                    obtain ⟨f1, f2⟩ := fits_ok hf hi
                    have hkill : Rel P w0 env (σ.put n none) w := h.put hn he rfl rfl rfl (Nat.le_refl _) (fun _ _ _ => rfl) (fun o' ho' => by cases ho')
                    have hfree : ∀ (m : Nat) o (x : Nat × Nat), (σ.put n none).get m = some o → env.blocks m = some x → x.1 ≠ b := fun m o x hm hx => by
                      rcases SH.get_put hm with ⟨_, hm⟩ | ⟨hne, hm⟩
                      · cases hm
                      · exact h.apart m n o _ x (b, k) hne hm hn hx he
                    have hto := denL_take (len * i.size) g3
                    have hlt : (us.take (len * i.size)).length = len * i.size := by rw [List.length_take, denL_length g3]; omega
                    by_cases hroom : len + m ≤ k
                    · -- in place
                      have hst := run_storeCells_cells (P := P) b (len * i.size) vn 0 w (fun j hj => by
                          have : len * i.size + 0 + j < cur.size := by
                            have : (len + m) * i.size ≤ k * i.size := Nat.mul_le_mul_right _ hroom
                            rw [Nat.add_mul] at this; omega
                          rw [Nat.add_zero] at this ⊢
                          simp [World.cell?, g1, this]) (fun j hj => by
                          have : len * i.size + 0 + j < cur.size := by
                            have : (len + m) * i.size ≤ k * i.size := Nat.mul_le_mul_right _ hroom
                            rw [Nat.add_mul] at this; omega
                          simp only [World.frozen?, g1]; exact thawed_at g2 _ this) (allOne ho hone hdn)
                      rw [Nat.add_zero] at hst
                      have hrun := append_in (ty := ty) (a := ⟨b, 0, none⟩) ht hi hD gift hroom (by rw [add_none, Nat.zero_add]; exact hst)
                      have hfitc : len * i.size + vn.length ≤ cur.size := by
                        have : (len + m) * i.size ≤ k * i.size := Nat.mul_le_mul_right _ hroom
                        rw [Nat.add_mul] at this; omega
                      obtain ⟨cur', q1, q2, q3, q4, q5, q6, q7⟩ := setCells_heap b vn (len * i.size) w cur t fr g1 hfitc
                      have hsize : cur'.size = cur.size := by
                        have := congrArg List.length q2
                        unfold patchV at this
                        simp only [Array.length_toList, List.length_append, List.length_take, List.length_drop] at this
                        omega
                      have hk2 : Rel P w0 env (σ.put n none) (w.setCells b (len * i.size) vn) := h.put hn he q5 q6 q7 (by omega) (fun k _ hk => q4 k hk) (fun o' ho' => by cases ho')
                      have hcells : P.cellsOf e' = i.size := by simp [Program.cellsOf, hi]
                      have hden2 := denL_append hto hdn
                      have hnm := hk2.name (so := .cells (l.take (len * i.size) ++ news) e' false) (c := k) hb ⟨cur', t, fr, us.take (len * i.size) ++ vn, q1, by rw [hsize]; exact g2, denL_mono (h.le_push b k) _ _ hden2, by
                        rw [q2, ← denL_length hden2, List.length_append, hlt]
                        unfold patchV
                        have e0 : cur.toList.length = cur.size := Array.length_toList
                        rw [List.take_append_of_le_length (by rw [List.length_append, List.length_take]; omega), List.take_of_length_le (by rw [List.length_append, List.length_take]; omega), ← g4, List.take_take, Nat.min_eq_left hle], (fun hx => by cases hx), fun _ => ⟨by rw [hsize, hcells]; exact s1, s2⟩⟩ hfree
                      exact ⟨_, _, _, _, _, rfl, hrun, h.le_push b k, hnm, by
                        have : (env.push σ.next b k).blocks ((σ.put n none).next) = some (b, k) := Env.new _ _ _ _
                        simp only [den, this, capOf, Nat.sub_zero]⟩
                    · -- grown
                      obtain ⟨vo, o1, o2, o3⟩ := h.drew.loadCells (off := 0) (k := len * i.size) hn he (by omega)
                      simp only [List.drop_zero] at o1
                      rw [hto] at o1; cases o1
                      have hrun := append_out (ty := ty) (olds := us.take (len * i.size)) (base := some ⟨b, 0, none⟩) (sl := len) (sc := k) ht hi hzero hD gift (by simp only [Builtin.firstCells]; exact o3) (by omega) (by omega) f2
                      have hge := grownCap_ge w (len + m) k e'
                      have hm2 := grownCap_le_maxLen w (len + m) k e' (by unfold maxLen; omega)
                      have hrel := grown_den (k := 0) ho hkill hi hzsz hto hdn (by rw [List.length_append, hlt, hln, Nat.add_mul]) hge hm2
                      exact ⟨_, _, _, _, _, rfl, hrun, h.le_push _ _, hrel, by
                        have : (env.push σ.next w.drew.heap.size (grownCap w (len + m) k e')).blocks ((σ.put n none).next) = some (w.drew.heap.size, grownCap w (len + m) k e') := Env.new _ _ _ _
                        simp only [den, this, capOf, Nat.sub_zero]; rfl⟩
                  · cases hs
              · cases hs
            · cases hs
          · cases hs
        · cases hs
      · cases hs
    · cases hs
  · cases hs
end Go.Proofs.YthenjjonphoklaaGreatDoor
