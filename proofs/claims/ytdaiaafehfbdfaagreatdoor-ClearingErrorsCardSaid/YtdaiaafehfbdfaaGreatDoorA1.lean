/- What is known of two functions of the library: strings.Compare, slices.Sort at []int. -/
import Derived.WideKeyArgs
import Derived.OpenShut
import Derived.Carry
import Derived.Lib.Bytealg
import Derived.Test.YtdaiaafehfbdfaaGreatDoorA0
set_option maxRecDepth 4000
set_option linter.unusedVariables false
set_option linter.unusedSimpArgs false
set_option linter.unnecessarySimpa false
set_option linter.unusedSectionVars false
/-! Appends; and what the compiler gives for an operation does what the operation does. -/
namespace Go.Proofs.Vm
open Go

section
variable {P : Program} {n : Nat} {Lc : Nat → Loc} {m0 m1 : Mem} {H H' : List O} {w : World} {s : Nat → V} {a : Act} {o : Oper} {v : V} {i : Ins}

theorem run_append_zero {t ty e : TypeId} {ti : TypeInfo} (ht : P.underlying t = some (.slice e)) (hi : P.info? e = some ti) (A : Option Addr) (n c : Nat) (hc : n ≤ c) (B : Option Addr) (c' : Nat) (w : World) :
    (Builtin.append_ #[t, t] ty #[.slice A n c, .slice B 0 c']).run P w = .ok (.slice A n c) w := by
  cases A <;> cases B <;> simp [Builtin.append_, run_underlying ht, sizeOf, typeInfo, hi, Builtin.lenOf, Builtin.firstCells, loadCells, loadCellsFrom, storeCells, hc]

/-- What an append leaves in a block made anew. -/
theorem grown_rel {l : List V} {xs : List Value} {z : Array Value} {k sz : Nat} (hl : l.length = xs.length) (hv : ∀ j (hj : j < l.length) (hj' : j < xs.length), VR n Lc m0 m1 l[j] xs[j]) (hone : ∀ u ∈ xs, u.oneCell' = true) :
    l.length ≤ (xs.toArray ++ Builtin.zeroCells z k).size ∧ ∀ j (hj : j < l.length) (hj' : j < (xs.toArray ++ Builtin.zeroCells z k).size), (xs.toArray ++ Builtin.zeroCells z k)[j].oneCell' = true ∧ VR n Lc m0 m1 l[j] (xs.toArray ++ Builtin.zeroCells z k)[j] := by
  refine ⟨by simp; omega, fun j hj hj' => ?_⟩
  have e : (xs.toArray ++ Builtin.zeroCells z k)[j] = xs[j]'(by omega) := by
    rw [Array.getElem_append_left (by simp; omega)]; simp
  rw [e]
  exact ⟨hone _ (List.getElem_mem _), hv j hj _⟩

theorem mem_drew (hm : MemR n Lc m0 m1 H w) : MemR n Lc m0 m1 H w.drew := hm.drew

theorem ok_app {t e : TypeId} {sz by_ : Nat} {x y : Operand} {x' y' : Opd} {c : Call} (hop : o.op = .call c) (hcal : c.callee = .builtin .append) (hargs : c.args.toList = [x, y]) (hts : c.argTypes.toList = [t, t]) (ht : sliceT P t = some (e, sz, by_)) {z : List V} (hz : zeroT P e = some z)
    (hm : MemR n Lc m0 m1 H w) (hs : SR n Lc m0 m1 s a) (hx : opd x = some x') (hy : opd y = some y') (he : evI (.app e sz by_ x' y') s H = some (v, H')) : Ok1 P o a w n Lc m0 m1 v H' := by
  obtain ⟨ti, hu, hti, rfl, rfl, hp1, hp2⟩ := sliceT_ok ht
  obtain ⟨i, zv, g1, g2, g3, g4, g5, g6, g7⟩ := zero_rel (n := n) (Lc := Lc) (m0 := m0) (m1 := m1) hz
  rw [hti] at g1; cases g1
  have hxv := opd_ok hs hx
  have hyv := opd_ok hs hy
  obtain ⟨cs, hcs⟩ := run_call (P := P) (w := w) (a := a) hop hcal
  rw [args2 hargs, types2 hts] at hcs
  have fin : ∀ {r : Value} {w' : World}, (Builtin.append_ #[t, t] o.type #[a.eval x, a.eval y]).run P w = .ok r w' → (execOp a.eval o).run P w = .ok (.value r) w' := fun h => by
    rw [hcs]; simp only [builtin, Sem.run_bind, h, Result.andThen_ok, Sem.run_pure]
  simp only [evI] at he
  split at he
  rotate_left
  · cases he
  rename_i ys m hsl
  obtain ⟨A, cp, B, O', xs, hyp, hmc, h1, h2, h3, h4, h5, h6⟩ := sliceV_ok hm hsl hyv
  -- an empty base
  have nilCase : ∀ A0, a.eval x = .slice A0 0 0 → m ≠ 0 → m * ti.bytes ≤ 140737488355328 → ys.all V.leaf = true → Ok1 P o a w n Lc m0 m1 (.osl H.length 0 m) (H ++ [.cells ys e ti.size]) := by
    intro A0 hxp hm0 hby hall
    have hne : ys ≠ [] := fun e => by
      subst e
      have h0 : m * ti.size = 0 := by simpa using h1.symm
      have := Nat.mul_pos (Nat.pos_of_ne_zero hm0) hp1
      omega
    have hA := h3 hne
    subst hA
    have hmle : m ≤ 140737488355328 := Nat.le_trans (Nat.le_mul_of_pos_right _ hp2) hby
    have hnews : ∀ j u, xs[j]? = some u → w.cell? ((⟨B, O', none⟩ : Addr).add j) = some u := fun j u hu => by rw [Addr.add_lit]; exact h4 j u hu
    have hg := grownCap_ge w m 0 e
    have hgm := grownCap_le_maxLen w m 0 e (by simp only [maxLen]; omega)
    have hr : (Builtin.append_ #[t, t] o.type #[a.eval x, a.eval y]).run P w = .ok (.slice (some ⟨w.heap.size, 0, none⟩) m (grownCap w m 0 e)) (w.drew.alloc (.cells (xs.toArray ++ Builtin.zeroCells zv.cells (grownCap w m 0 e - m)) e)) := by
      rw [hxp, hyp]
      cases A0 with
      | none => exact run_append_nil (P := P) w t o.type e ti zv hu hti g2 ⟨B, O', none⟩ m cp xs (by rw [h2, h1]) hnews (by omega) (by omega) (by omega)
      | some b =>
        have := run_append_grow (P := P) w t o.type e ti zv hu hti g2 b 0 0 [] (by simp) (fun j u e => by simp at e) ⟨B, O', none⟩ m cp xs (by rw [h2, h1]) hnews (by omega) (by omega) (growslice_fits (by omega) (by rw [Nat.zero_add]; exact hby))
        simpa using this
    obtain ⟨q1, q2⟩ := grown_rel (z := zv.cells) (k := grownCap w m 0 e - m) (sz := ti.size) h2.symm h6 h5
    obtain ⟨a1, a2⟩ := (mem_drew hm).alloc (l := ys) (t := e) (z := ti.size) (cap := grownCap w m 0 e) hp1 (by simp only [Array.size_append, List.size_toArray, size_zeroCells, h2, h1, g3, ← Nat.add_mul]; congr 1; omega) hgm q1 q2
    refine ⟨_, _, _, _, fin hr, .inr ⟨_, rfl, ?_⟩, a1, (Stp.drew n Lc w).trans a2⟩
    rw [hm.len]
    have := VR.osl (n := n + 1) (Lc := addL Lc n ⟨w.drew.heap.size, ti.size, grownCap w m 0 e⟩) (m0 := m0) (m1 := m1) n 0 m (grownCap w m 0 e) ⟨by omega, by simp [addL]; exact hp1⟩ hg (by simp [addL])
    simpa [addL] using this
  split at he
  · rename_i ex
    rw [ex] at hxv
    have hxp := hxv.lit_inv
    split at he
    · rename_i hm0
      subst hm0
      cases he
      refine .same hm (x := .slice none 0 0) (fin ?_) .lit_
      rw [hxp, hyp]
      exact run_append_zero hu hti none 0 0 (Nat.le_refl _) A cp w
    · split at he <;> cases he
      rename_i hm0 hb
      exact nilCase _ hxp hm0 hb.1 hb.2
  · rename_i ex
    rw [ex] at hxv
    obtain ⟨A0, hxp⟩ := hxv.zsl_inv
    split at he
    · rename_i hm0
      subst hm0
      cases he
      refine .same hm (x := .slice A0 0 0) (fin ?_) (.fr (.zsl _ _))
      rw [hxp, hyp]
      exact run_append_zero hu hti A0 0 0 (Nat.le_refl _) A cp w
    · split at he <;> cases he
      rename_i hm0 hb
      exact nilCase _ hxp hm0 hb.1 hb.2
  · rename_i h k ex
    rw [ex] at hxv
    obtain ⟨cap, hxp, hh, hkc, hcc⟩ := hxv.osl_inv
    split at he
    rotate_left
    · cases he
    rename_i l t' z' ho
    split at he <;> cases he
    rename_i hb
    obtain ⟨rfl, rfl, b3, b4, b5⟩ := hb
    obtain ⟨e1, e2, arr, e3, e4, e5, e6⟩ := hm.own h l t' ti.size ho
    have hcap : (Lc h).cap = cap := by
      rw [e1, Nat.zero_add] at hcc
      exact (Nat.eq_of_mul_eq_mul_right hp1 hcc).symm
    have hkle : k + m ≤ 140737488355328 := Nat.le_trans (Nat.le_mul_of_pos_right _ hp2) b4
    have hnews : m ≠ 0 → A = some ⟨B, O', none⟩ := fun hm0 => h3 fun e => by
      subst e
      have h0 : m * ti.size = 0 := by simpa using h1.symm
      have := Nat.mul_pos (Nat.pos_of_ne_zero hm0) hp1
      omega
    have hnews2 : ∀ j u, xs[j]? = some u → w.cell? ((⟨B, O', none⟩ : Addr).add j) = some u := fun j u hu => by rw [Addr.add_lit]; exact h4 j u hu
    have hxl : xs.length = m * ti.size := by rw [h2, h1]
    have hksz : k * ti.size ≤ cap * ti.size := Nat.mul_le_mul_right _ hkc
    -- the result's place
    have vr : ∀ g C, k + m ≤ C → VR (n + 1) (addL Lc n ⟨g, ti.size, C⟩) m0 m1 (.osl H.length 0 (k + m)) (.slice (some ⟨g, 0, none⟩) (k + m) C) := fun g C hC => by
      rw [hm.len]
      have := VR.osl (n := n + 1) (Lc := addL Lc n ⟨g, ti.size, C⟩) (m0 := m0) (m1 := m1) n 0 (k + m) C ⟨by omega, by simp [addL]; exact hp1⟩ hC (by simp [addL])
      simpa [addL] using this
    by_cases hm0 : m = 0
    · subst hm0
      have hys : ys = [] := List.eq_nil_of_length_eq_zero (by simpa using h1)
      subst hys
      have hr : (Builtin.append_ #[t, t] o.type #[a.eval x, a.eval y]).run P w = .ok (.slice (some ⟨(Lc h).blk, 0, none⟩) k cap) w := by
        rw [hxp, hyp]; exact run_append_zero hu hti _ k cap hkc A cp w
      obtain ⟨a1, a2⟩ := hm.moved (w' := w) (g := (Lc h).blk) (cap := cap) (l' := l.take (k * ti.size) ++ []) ho rfl rfl rfl (Nat.le_refl _) (.inl rfl) e3 (fun _ _ _ => rfl) (by rw [e4, hcap]) (by rw [← hcap]; exact e2) (by simp; omega) (fun j hj hj' => by
        have hj2 : j < l.length := by simp at hj; omega
        have : (l.take (k * ti.size) ++ [])[j] = l[j] := by simp
        rw [this]; exact e6 j hj2 hj')
      exact ⟨_, _, _, _, fin hr, .inr ⟨_, rfl, vr _ _ (by omega)⟩, a1, a2⟩
    · have hA := hnews hm0
      subst hA
      have holds : ∀ (j : Nat) (hj : j < (l.take (k * ti.size)).length) , j < l.length ∧ (l.take (k * ti.size))[j] = l[j]'(by simp at hj; omega) := fun j hj => ⟨by simp at hj; omega, by simp⟩
      by_cases hroom : k + m ≤ cap
      · have hfit : k * ti.size + xs.length ≤ arr.size := by rw [hxl, e4, hcap, ← Nat.add_mul]; exact Nat.mul_le_mul_right _ hroom
        have hr := run_append_room (P := P) w t o.type t' ti hu hti (Lc h).blk k cap arr e3 ⟨B, O', none⟩ m cp xs hxl hnews2 h5 hroom hfit
        rw [← hxp, ← hyp] at hr
        have hrow := setRow_heap w (Lc h).blk arr (arr.toList.take (k * ti.size) ++ xs ++ arr.toList.drop (k * ti.size + xs.length)).toArray t' (0, 0) e3
        have hlen : (arr.toList.take (k * ti.size) ++ xs ++ arr.toList.drop (k * ti.size + xs.length)).length = arr.size := by simp; omega
        obtain ⟨a1, a2⟩ := hm.moved (w' := w.setRow (Lc h).blk (arr.toList.take (k * ti.size) ++ xs ++ arr.toList.drop (k * ti.size + xs.length)).toArray) (g := (Lc h).blk) (cap := cap) (l' := l.take (k * ti.size) ++ ys) ho rfl rfl rfl (by simp) (.inl rfl) hrow
          (fun b _ hb => by simp only [World.setRow, Array.getElem?_modify]; rw [if_neg (fun e => hb e.symm)]) (by simp only [List.size_toArray]; rw [hlen, e4, hcap]) (by rw [← hcap]; exact e2) (by simp only [List.size_toArray, hlen]; simp; omega) (fun j hj hj' => by
            simp only [List.getElem_toArray]
            by_cases j1 : j < k * ti.size
            · have q1 : (l.take (k * ti.size) ++ ys)[j] = l[j]'(by omega) := by rw [List.getElem_append_left (by simp; omega)]; simp
              have q2 : (arr.toList.take (k * ti.size) ++ xs ++ arr.toList.drop (k * ti.size + xs.length))[j]'(by simpa using hj') = arr[j]'(by omega) := by
                rw [List.getElem_append_left (by simp; omega), List.getElem_append_left (by simp; omega)]; simp
              rw [q1, q2]; exact e6 j (by omega) (by omega)
            · have hjl : j - k * ti.size < ys.length := by simp at hj; omega
              have q1 : (l.take (k * ti.size) ++ ys)[j] = ys[j - k * ti.size] := by
                rw [List.getElem_append_right (by simp; omega)]; congr 1; simp; omega
              have q2 : (arr.toList.take (k * ti.size) ++ xs ++ arr.toList.drop (k * ti.size + xs.length))[j]'(by simpa using hj') = xs[j - k * ti.size]'(by omega) := by
                rw [List.getElem_append_left (by simp; omega), List.getElem_append_right (by simp; omega)]; congr 1; simp; omega
              rw [q1, q2]
              exact ⟨h5 _ (List.getElem_mem _), h6 _ hjl (by omega)⟩)
        exact ⟨_, _, _, _, fin hr, .inr ⟨_, rfl, vr _ _ hroom⟩, a1, a2⟩
      · -- the old cells
        have hC := hm.cells ho
        obtain ⟨olds, o1, o2, o3, o4⟩ := (hC.take (k * ti.size)).list
        have hol : olds.length = k * ti.size := by rw [o1]; simp; omega
        have hg := grownCap_ge w (k + m) cap t'
        have hgm := grownCap_le_maxLen w (k + m) cap t' (by simp only [maxLen]; omega)
        have hr := run_append_grow (P := P) w t o.type t' ti zv hu hti g2 ⟨(Lc h).blk, 0, none⟩ k cap olds hol (fun j u hu => by rw [Addr.add_lit]; exact o2 j u hu) ⟨B, O', none⟩ m cp xs hxl hnews2 (by omega) (by omega) (growslice_fits (by omega) b4)
        rw [← hxp, ← hyp] at hr
        have hall : l.take (k * ti.size) ++ ys = l.take (k * ti.size) ++ ys := rfl
        have hlen2 : (l.take (k * ti.size) ++ ys).length = (olds ++ xs).length := by simp only [List.length_append, o1, h2]
        obtain ⟨q1, q2⟩ := grown_rel (n := n) (Lc := Lc) (m0 := m0) (m1 := m1) (l := l.take (k * ti.size) ++ ys) (xs := olds ++ xs) (z := zv.cells) (k := grownCap w (k + m) cap t' - (k + m)) (sz := ti.size) hlen2 (fun j hj hj' => by
            by_cases j1 : j < k * ti.size
            · rw [List.getElem_append_left (by simp; omega), List.getElem_append_left (by omega)]
              exact o4 j _ _
            · have hjl : j - k * ti.size < ys.length := by simp at hj; omega
              have q1 : (l.take (k * ti.size) ++ ys)[j] = ys[j - k * ti.size] := by
                rw [List.getElem_append_right (by simp; omega)]; congr 1; simp; omega
              have q2 : (olds ++ xs)[j] = xs[j - k * ti.size]'(by omega) := by
                rw [List.getElem_append_right (by omega)]; congr 1; omega
              rw [q1, q2]; exact h6 _ hjl _) (fun u hu => by
            rcases List.mem_append.1 hu with hu | hu
            · exact o3 u hu
            · exact h5 u hu)
        have e0 : (olds.toArray ++ xs.toArray ++ Builtin.zeroCells zv.cells (grownCap w (k + m) cap t' - (k + m))) = ((olds ++ xs).toArray ++ Builtin.zeroCells zv.cells (grownCap w (k + m) cap t' - (k + m))) := by simp
        rw [e0] at hr
        obtain ⟨a1, a2⟩ := hm.moved (w' := w.drew.alloc (.cells ((olds ++ xs).toArray ++ Builtin.zeroCells zv.cells (grownCap w (k + m) cap t' - (k + m))) t')) (g := w.heap.size) (cap := grownCap w (k + m) cap t') (l' := l.take (k * ti.size) ++ ys) ho rfl rfl rfl (by simp) (.inr (Nat.le_refl _)) (heap_alloc_new w.drew _)
          (fun b hb _ => heap_alloc_old w.drew _ b hb) (by
            simp only [Array.size_append, List.size_toArray, size_zeroCells, List.length_append, hol, hxl, g3, ← Nat.add_mul]; congr 1; omega) hgm q1 q2
        exact ⟨_, _, _, _, fin hr, .inr ⟨_, rfl, vr _ _ hg⟩, a1, a2⟩
  · cases he

/-! ### All of them -/
theorem zeroT_some {t e : TypeId} {sz by_ : Nat} (_ : sliceT P t = some (e, sz, by_)) : True := trivial

theorem ins_ok (hi : insC P o.op = some i) (hm : MemR n Lc m0 m1 H w) (hs : SR n Lc m0 m1 s a) (he : evI i s H = some (v, H')) : Ok1 P o a w n Lc m0 m1 v H' := by
  have eqc : ∀ {h : H' = H ∧ Ok1 P o a w n Lc m0 m1 v H}, Ok1 P o a w n Lc m0 m1 v H' := fun {h} => by rw [h.1]; exact h.2
  cases hop : o.op with
  | move x =>
    simp only [hop, insC, Option.map_eq_some_iff] at hi
    obtain ⟨y, hy, rfl⟩ := hi
    cases he
    exact ok_move (.inl hop) hm hs hy
  | assign x =>
    simp only [hop, insC, Option.map_eq_some_iff] at hi
    obtain ⟨y, hy, rfl⟩ := hi
    cases he
    exact ok_move (.inr hop) hm hs hy
  | pick c x y =>
    simp only [hop, insC, Option.bind_eq_bind, Option.bind_eq_some_iff, Option.some.injEq] at hi
    obtain ⟨c', hc, x', hx, y', hy, rfl⟩ := hi
    simp only [evI] at he
    split at he <;> cases he
    rename_i ht
    exact ok_pick hop hm hs hc hx hy ht
  | alloc e =>
    simp only [hop, insC, Option.bind_eq_bind, Option.bind_eq_some_iff, Option.some.injEq] at hi
    obtain ⟨z, hz, rfl⟩ := hi
    cases he
    exact ok_alloc hop hm hz
  | box e x =>
    simp only [hop, insC, Option.bind_eq_bind, Option.bind_eq_some_iff, Option.some.injEq] at hi
    obtain ⟨y, hy, rfl⟩ := hi
    simp only [evI] at he
    split at he <;> cases he
    rename_i hall
    exact ok_box hop hm hs hy hall.1 hall.2
  | build t parts =>
    simp only [hop, insC] at hi
    split at hi
    · rename_i fs hu
      split at hi
      · rename_i hall
        simp only [Option.bind_eq_bind, Option.bind_eq_some_iff, Option.some.injEq] at hi
        obtain ⟨z, hz, q, hq, rfl⟩ := hi
        exact eqc (h := ok_buildS hop hu hall hz hq hm hs he)
      · cases hi
    · rename_i k e hu
      simp only [Option.bind_eq_bind, Option.bind_eq_some_iff, Option.some.injEq] at hi
      obtain ⟨z, hz, ti, hti, q, hq, rfl⟩ := hi
      exact eqc (h := ok_buildA hop hu hti hz hq hm hs he)
    · cases hi
  | buildSlice t k parts =>
    simp only [hop, insC, Option.bind_eq_bind, Option.bind_eq_some_iff] at hi
    obtain ⟨⟨e, sz, by_⟩, ht, hi⟩ := hi
    simp only at hi
    split at hi
    · rename_i hb
      cases hi
      obtain ⟨hk, hps⟩ := hb
      subst hk
      exact ok_bsz hop hps ht hm he
    split at hi
    · rename_i hb
      simp only [Option.bind_eq_some_iff, Option.some.injEq] at hi
      obtain ⟨z, hz, q, hq, rfl⟩ := hi
      exact ok_bsl hop ht hb.1 hb.2 hz hq hm hs he
    · cases hi
  | load t x =>
    simp only [hop, insC, Option.bind_eq_bind, Option.bind_eq_some_iff, Option.some.injEq] at hi
    obtain ⟨sz, hsz, y, hy, rfl⟩ := hi
    exact eqc (h := ok_load hop hm hs hy hsz he)
  | store t x y =>
    simp only [hop, insC, Option.bind_eq_bind, Option.bind_eq_some_iff, Option.some.injEq] at hi
    obtain ⟨ti, hti, x', hx, y', hy, rfl⟩ := hi
    exact ok_store hop hm hs hx hy hti he
  | nilCheck x =>
    simp only [hop, insC, Option.bind_eq_bind, Option.bind_eq_some_iff, Option.some.injEq] at hi
    obtain ⟨y, hy, rfl⟩ := hi
    exact eqc (h := ok_nilc hop hm hs hy he)
  | binOp op t x y t' =>
    simp only [hop, insC, Option.bind_eq_bind, Option.bind_eq_some_iff] at hi
    obtain ⟨x', hx, y', hy, hi⟩ := hi
    have hneg : ∀ {f : Bool → Ins}, eqOp f op = some i → ∃ neg, i = f neg ∧ op = if neg then .neq else .eql := by
      intro f h
      unfold eqOp at h
      split at h <;> cases h
      · exact ⟨false, rfl, rfl⟩
      · exact ⟨true, rfl, rfl⟩
    split at hi
    · rename_i k hu
      cases hi
      exact eqc (h := ok_bin hop hm hs hx hy he)
    · rename_i hu
      cases hi
      exact eqc (h := ok_bin hop hm hs hx hy he)
    · rename_i hu
      obtain ⟨neg, rfl, h2⟩ := hneg hi
      exact eqc (h := ok_beq hop h2 hu hm hs hx hy he)
    · rename_i fs hu
      split at hi
      · rename_i hp
        obtain ⟨neg, rfl, h2⟩ := hneg hi
        exact eqc (h := ok_aeq hop h2 hp hm hs hx hy he)
      · cases hi
    · rename_i e hu
      split at hi
      · rename_i hn
        obtain ⟨neg, rfl, h2⟩ := hneg hi
        exact eqc (h := ok_snil hop h2 hu hn hm hs hx hy he)
      · cases hi
    · cases hi
  | unOp op t x =>
    simp only [hop, insC, Option.bind_eq_bind, Option.bind_eq_some_iff, Option.some.injEq] at hi
    obtain ⟨y, hy, rfl⟩ := hi
    exact eqc (h := ok_un hop hm hs hy he)
  | convert src dst x =>
    simp only [hop, insC, Option.bind_eq_bind, Option.bind_eq_some_iff] at hi
    obtain ⟨y, hy, hi⟩ := hi
    split at hi
    · rename_i hu hu'
      cases hi
      exact eqc (h := ok_wrap hop hu hu' hm hs hy he)
    · rename_i hu hu'
      cases hi
      exact eqc (h := ok_sst hop hu hu' hm hs hy he)
    · rename_i e hu hu'
      split at hi
      · rename_i he8
        cases hi
        exact eqc (h := ok_str hop hu he8 hu' hm hs hy he)
      · cases hi
    · cases hi
  | makeFunc fn first caps =>
    simp only [hop, insC] at hi
    split at hi
    · rename_i f
      split at hi
      · rename_i h0
        simp only [Option.bind_eq_bind, Option.bind_eq_some_iff, Option.some.injEq] at hi
        obtain ⟨ys, hys, rfl⟩ := hi
        exact eqc (h := ok_clo hop h0 hm hs hys he)
      · cases hi
    · cases hi
  | makeMap t r =>
    simp only [hop] at hi
    unfold insC at hi
    cases r with
    | none =>
      simp only at hi
      split at hi
      · obtain ⟨c, hc, rfl⟩ := Option.map_eq_some_iff.1 hi
        exact ok_mkm hop hm he
      · cases hi
    | some r => simp at hi
  | makeSlice t l c =>
    simp only [hop, insC, Option.bind_eq_bind, Option.bind_eq_some_iff] at hi
    obtain ⟨⟨e, sz, by_⟩, ht, hi⟩ := hi
    simp only [Option.bind_eq_some_iff, Option.some.injEq] at hi
    obtain ⟨z, hz, x', hx, y', hy, rfl⟩ := hi
    exact ok_mk hop ht hz hm hs hx hy he
  | slice t x lo hi' mx =>
    simp only [hop, insC, Option.bind_eq_bind, Option.bind_eq_some_iff] at hi
    obtain ⟨y, hy, lo1, hlo, hi1, hhi, mx1, hmx, hi⟩ := hi
    split at hi
    · rename_i hu
      split at hi <;> cases hi
      have : mx = none := by
        unfold opdO at hmx
        split at hmx
        · rfl
        · obtain ⟨y', hy, e⟩ := Option.map_eq_some_iff.1 hmx; cases e
      subst this
      exact eqc (h := ok_sls hop hu hm hs hy hlo hhi he)
    · rename_i e hu
      simp only [Option.bind_eq_some_iff, Option.some.injEq] at hi
      obtain ⟨ti, hti, rfl⟩ := hi
      exact eqc (h := ok_slc hop hu hti hm hs hy hlo hhi hmx he)
    · cases hi
  | fieldAddr t x f =>
    simp only [hop, insC, Option.bind_eq_bind, Option.bind_eq_some_iff] at hi
    obtain ⟨fl, hf, ti, hti, hi⟩ := hi
    split at hi
    · cases hi
    · rename_i h0
      simp only [Option.bind_eq_some_iff, Option.some.injEq] at hi
      obtain ⟨y, hy, rfl⟩ := hi
      exact eqc (h := ok_off hop hm hs hy hf hti h0 he)
  | field t x f =>
    simp only [hop, insC, Option.bind_eq_bind, Option.bind_eq_some_iff, Option.some.injEq] at hi
    obtain ⟨fl, hf, sz, hsz, y, hy, rfl⟩ := hi
    exact eqc (h := ok_fld hop hm hs hy hf hsz he)
  | indexAddr t x y =>
    simp only [hop, insC] at hi
    split at hi
    · rename_i k e hu
      simp only [Option.bind_eq_bind, Option.bind_eq_some_iff, Option.some.injEq] at hi
      obtain ⟨ti, hti, x', hx, y', hy, rfl⟩ := hi
      exact eqc (h := ok_iaa hop hm hs hx hy hu hti he)
    simp only [Option.bind_eq_bind, Option.bind_eq_some_iff] at hi
    obtain ⟨⟨e, sz, by_⟩, ht, hi⟩ := hi
    simp only [Option.bind_eq_some_iff, Option.some.injEq] at hi
    obtain ⟨x', hx, y', hy, rfl⟩ := hi
    exact eqc (h := ok_ia hop hm hs hx hy ht he)
  | index t x y =>
    simp only [hop, insC] at hi
    split at hi
    · rename_i hu
      simp only [Option.bind_eq_bind, Option.bind_eq_some_iff, Option.some.injEq] at hi
      obtain ⟨x', hx, y', hy, rfl⟩ := hi
      exact eqc (h := ok_idx hop hm hs hx hy hu he)
    · rename_i k e hu
      simp only [Option.bind_eq_bind, Option.bind_eq_some_iff] at hi
      obtain ⟨x', hx, y', hy, sz, hsz, hi⟩ := hi
      split at hi
      · split at hi
        · rename_i ti hti
          split at hi <;> cases hi
          rename_i h1
          exact eqc (h := ok_ixa hop hm hs hx hy hu hsz hti h1 he)
        · cases hi
      · rename_i q
        cases hi
        have hti : ∃ ti, P.info? e = some ti ∧ ti.size = q := by
          unfold szT at hsz
          split at hsz <;> cases hsz
          · exact ⟨_, ‹_›, rfl⟩
          · exact ⟨_, ‹_›, rfl⟩
        obtain ⟨ti, hti, h1⟩ := hti
        exact eqc (h := ok_ixa hop hm hs hx hy hu hsz hti h1 he)
    · cases hi
  | extract x k =>
    simp only [hop, insC, Option.bind_eq_bind, Option.bind_eq_some_iff, Option.some.injEq] at hi
    obtain ⟨y, hy, rfl⟩ := hi
    exact eqc (h := ok_ext hop hm hs hy he)
  | lookup t x k ok =>
    simp only [hop, insC] at hi
    split at hi
    · cases hi
    · rename_i hok
      simp only [Option.bind_eq_bind, Option.bind_eq_some_iff, Option.some.injEq] at hi
      obtain ⟨c, hc, x', hx, k', hk, rfl⟩ := hi
      have : ok = false := by simpa using hok
      subst this
      exact eqc (h := ok_lkm hop hc hm hs hx hk he)
  | mapUpdate t m k x =>
    simp only [hop, insC, Option.bind_eq_bind, Option.bind_eq_some_iff, Option.some.injEq] at hi
    obtain ⟨c, hc, x', hx, k', hk, y', hy, rfl⟩ := hi
    exact ok_upm hop hc hm hs hx hk hy he
  | call c =>
    simp only [hop, insC] at hi
    split at hi
    · rename_i hcal
      split at hi
      · rename_i x t hx ht
        split at hi
        · rename_i hu
          simp only [Option.bind_eq_bind, Option.bind_eq_some_iff, Option.some.injEq] at hi
          obtain ⟨y, hy, rfl⟩ := hi
          exact eqc (h := ok_slen hop hcal hx ht hu hm hs hy he)
        · rename_i e hu
          simp only [Option.bind_eq_bind, Option.bind_eq_some_iff, Option.some.injEq] at hi
          obtain ⟨y, hy, rfl⟩ := hi
          exact eqc (h := ok_len hop hcal hx ht hu hm hs hy he)
        · cases hi
      · cases hi
    · rename_i hcal
      split at hi
      · rename_i x t hx ht
        split at hi
        · rename_i e hu
          simp only [Option.bind_eq_bind, Option.bind_eq_some_iff, Option.some.injEq] at hi
          obtain ⟨y, hy, rfl⟩ := hi
          exact eqc (h := ok_cap hop hcal hx ht hu hm hs hy he)
        · cases hi
      · cases hi
    · rename_i hcal
      split at hi
      · rename_i x y t t' hx ht
        split at hi
        · rename_i htt
          subst htt
          simp only [Option.bind_eq_bind, Option.bind_eq_some_iff] at hi
          obtain ⟨⟨e, sz, by_⟩, hst, hi⟩ := hi
          simp only [Option.bind_eq_some_iff, Option.some.injEq] at hi
          obtain ⟨z, hz, x', hx', y', hy', rfl⟩ := hi
          exact ok_app hop hcal hx ht hst hz hm hs hx' hy' he
        · split at hi
          · rename_i q hq
            simp only [Option.bind_eq_bind, Option.bind_eq_some_iff] at hi
            obtain ⟨⟨e, sz, by_⟩, hst, hi⟩ := hi
            simp only [Option.bind_eq_some_iff, Option.some.injEq] at hi
            obtain ⟨z, hz, x', hx', y', hy', rfl⟩ := hi
            exact ok_appz hop hcal hx ht hst hq hz hm hs hx' hy' he
          · cases hi
      · cases hi
    · rename_i hcal
      split at hi
      · rename_i x t hx ht
        simp only [Option.bind_eq_bind, Option.bind_eq_some_iff] at hi
        obtain ⟨⟨e, sz, by_⟩, hst, hi⟩ := hi
        simp only [Option.bind_eq_some_iff, Option.some.injEq] at hi
        obtain ⟨z, hz, x', hx', rfl⟩ := hi
        exact ok_clr hop hcal hx ht hst hz hm hs hx' he
      · cases hi
    · cases hi
  | _ => simp [hop, insC] at hi
end
end Go.Proofs.Vm
/-! Orders: an instruction that may run first, may run first. -/
namespace Go.Proofs.Vm
open Go

variable {call : Callee} {s s' : Nat → V} {H H' : List O} {v : V}

theorem ev_congr {x : Opd} (h : ∀ t ∈ x.slots, s t = s' t) : x.ev s = x.ev s' := by
  cases x with
  | t n => exact h n (by simp [Opd.slots])
  | c v => rfl
theorem map_ev_congr {l : List Opd} (h : ∀ t ∈ l.flatMap Opd.slots, s t = s' t) : l.map (·.ev s) = l.map (·.ev s') :=
  List.map_congr_left fun x hx => ev_congr fun t ht => h t (List.mem_flatMap.2 ⟨x, hx, ht⟩)
theorem optI_congr {x : Option Opd} {d : Int} (h : ∀ t ∈ optSlots x, s t = s' t) : optI s d x = optI s' d x := by
  cases x with
  | none => rfl
  | some x => simp only [optI, ev_congr (s := s) (s' := s') h]
theorem fill_congr {ps : List (Nat × Nat × Opd)} (h : ∀ t ∈ ps.flatMap (fun p => p.2.2.slots), s t = s' t) : ∀ l, fillV s l ps = fillV s' l ps := by
  induction ps with
  | nil => exact fun l => rfl
  | cons p ps ih =>
    obtain ⟨off, sz, x⟩ := p
    intro l
    have e := ev_congr (s := s) (s' := s') (x := x) fun t ht => h t (List.mem_flatMap.2 ⟨_, List.mem_cons_self, ht⟩)
    simp only [fillV, e, ih fun t ht => h t (by obtain ⟨p, hp, ht⟩ := List.mem_flatMap.1 ht; exact List.mem_flatMap.2 ⟨p, List.mem_cons_of_mem _ hp, ht⟩)]

theorem evN_congr {a : Alc} (h : ∀ t ∈ a.slots, s t = s' t) : evN a s H = evN a s' H := by
  cases a <;> simp only [Alc.slots, List.mem_append] at h
  case new => rfl
  case bsl t sz n z ps => simp only [evN, fill_congr h]
  case mk t sz b z x y => simp only [evN, ev_congr (x := x) fun t ht => h t (.inl ht), ev_congr (x := y) fun t ht => h t (.inr ht)]
  case appn t sz b y => simp only [evN, ev_congr h]
theorem evI_congr {i : Ins} (h : ∀ t ∈ i.slots, s t = s' t) : evI i s H = evI i s' H := by
  cases i <;> simp only [Ins.slots, List.mem_append] at h
  case mv x | un op x | wrap k x | str x | sst x | box x t | ld sz x | nilc x | off k x | fld o sz x | len x | slen x | cap x | ext k x | snil neg x => simp only [evI, ev_congr h]
  case pick a b c => simp only [evI, ev_congr (x := a) fun t ht => h t (.inl (.inl ht)), ev_congr (x := b) fun t ht => h t (.inl (.inr ht)), ev_congr (x := c) fun t ht => h t (.inr ht)]
  case stD ks k x y | appD ks a b c x y =>
    have e1 := ev_congr (x := x) (s := s) (s' := s') fun t ht => h t (.inl (.inr ht))
    have e2 := ev_congr (x := y) (s := s) (s' := s') fun t ht => h t (.inr ht)
    have e3 : ks.all (fun k => apartV (s k) (x.ev s')) = ks.all (fun k => apartV (s' k) (x.ev s')) := by
      rw [Bool.eq_iff_iff, List.all_eq_true, List.all_eq_true]
      exact ⟨fun q k hk => by rw [← h k (.inl (.inl hk))]; exact q k hk, fun q k hk => by rw [h k (.inl (.inl hk))]; exact q k hk⟩
    simp only [evI, e1, e2, e3]
  case bin op x y | beq n x y | aeq n k x y | st k x y | ia k x y | iaa k m x y | idx x y | ixa k m x y | app a b c x y => simp only [evI, ev_congr (x := x) fun t ht => h t (.inl ht), ev_congr (x := y) fun t ht => h t (.inr ht)]
  case mk a b c d x y => simp only [evI, ev_congr (x := x) fun t ht => h t (.inl ht), ev_congr (x := y) fun t ht => h t (.inr ht)]
  case build z ps => simp only [evI, fill_congr h]
  case bsl a b c d ps => simp only [evI, fill_congr h]
  case slc k x a b c =>
    have e1 := ev_congr (x := x) (s := s) (s' := s') fun t ht => h t (.inl (.inl (.inl ht)))
    have e2 := fun d => optI_congr (x := a) (s := s) (s' := s') (d := d) fun t ht => h t (.inl (.inl (.inr ht)))
    have e3 := fun d => optI_congr (x := b) (s := s) (s' := s') (d := d) fun t ht => h t (.inl (.inr ht))
    cases c with
    | none => simp only [evI, e1, e2, e3]
    | some m =>
      have e4 := ev_congr (x := m) (s := s) (s' := s') fun t ht => h t (.inr ht)
      simp only [evI, e1, e2, e3, e4]
  case sls x a b =>
    have e1 := ev_congr (x := x) (s := s) (s' := s') fun t ht => h t (.inl (.inl ht))
    have e2 := fun d => optI_congr (x := a) (s := s) (s' := s') (d := d) fun t ht => h t (.inl (.inr ht))
    have e3 := fun d => optI_congr (x := b) (s := s) (s' := s') (d := d) fun t ht => h t (.inr ht)
    simp only [evI, e1, e2, e3]
  case clo f l => simp only [evI, map_ev_congr h]
  case appz t k b z x y => simp only [evI, ev_congr (x := x) fun t ht => h t (.inl ht), ev_congr (x := y) fun t ht => h t (.inr ht)]
  case clr k z x => simp only [evI, ev_congr h]
  case lkm k x y => simp only [evI, ev_congr (x := x) fun t ht => h t (.inl ht), ev_congr (x := y) fun t ht => h t (.inr ht)]
  case upm k x y z => simp only [evI, ev_congr (x := x) fun t ht => h t (.inl (.inl ht)), ev_congr (x := y) fun t ht => h t (.inl (.inr ht)), ev_congr (x := z) fun t ht => h t (.inr ht)]
  case fill p a => simp only [evI, evFill, evN_congr h]
  all_goals rfl

/-- Value and objects of an instruction. -/
def evG (call : Callee) (i : In) (s : Nat → V) (H : List O) : Option (V × List O) :=
  if wantB s i.g then
    match i.i with
    | .call f args => call f (args.map (·.ev s)) H
    | .callv x args => match x.ev s with
      | .clo f caps => call f (args.map (·.ev s) ++ caps) H
      | _ => none
    | j => evI j s H
  else some (.none_, H)
theorem evO_eq (i : In) (st : St) : evO call i st = (evG call i st.1 st.2).map fun r => (put st.1 i.d r.1, r.2) := by
  obtain ⟨d, g, i⟩ := i
  unfold evO evG
  simp only
  split
  · cases i <;> try rfl
    rename_i x l
    simp only
    cases x.ev st.1 <;> rfl
  · rfl
theorem evG_congr {i : In} (h : ∀ t ∈ i.slots, s t = s' t) : evG call i s H = evG call i s' H := by
  obtain ⟨d, g, i⟩ := i
  simp only [In.slots, List.mem_append] at h
  have hg : wantB s g = wantB s' g := by
    cases g with
    | none => rfl
    | some g => obtain ⟨t, b⟩ := g; simp only [wantB, h t (.inr (by simp))]
  unfold evG
  simp only [hg]
  split
  · cases i with
    | call f l => simp only [map_ev_congr fun t ht => h t (.inl ht)]
    | callv x l =>
      have e1 := ev_congr (x := x) (s := s) (s' := s') fun t ht => h t (.inl (by simp [Ins.slots, ht]))
      have e2 := map_ev_congr (l := l) (s := s) (s' := s') fun t ht => h t (.inl (by simp only [Ins.slots, List.mem_append]; exact .inr ht))
      simp only [e1, e2]
    | _ => exact evI_congr fun t ht => h t (.inl ht)
  · rfl

/-- What was there is there. -/
def Keeps (H H' : List O) : Prop := ∀ (h : Nat) (l : List V) (t : TypeId) (z : Nat), H[h]? = some (.cells l t z) → H'[h]? = some (.cells l t z)
theorem Keeps.refl : Keeps H H := fun _ _ _ _ h => h
theorem Keeps.app {l : List O} : Keeps H (H ++ l) := fun h l' t z e => by
  rw [List.getElem?_append_left (List.getElem?_eq_some_iff.1 e).1]; exact e
theorem Keeps.getO (k : Keeps H H') {h : Nat} {r : List V × TypeId × Nat} (e : getO H h = some r) : Vm.getO H' h = some r := by
  unfold Vm.getO at *
  split at e
  · rename_i l t z ho
    rw [k h l t z ho]; exact e
  · cases e
theorem Keeps.sliceV (k : Keeps H H') {sz : Nat} {u : V} {r : List V × Nat} (e : Vm.sliceV H sz u = some r) : Vm.sliceV H' sz u = some r := by
  unfold Vm.sliceV at *
  split at e
  · exact e
  · exact e
  · split at e
    · rename_i l t z ho
      rw [k.getO ho]; exact e
    · cases e
  · exact e
  · cases e

theorem Keeps.set {p : Nat} {o : O} (h : H[p]? = some .hole) : Keeps H (H.set p o) := fun k l t z e => by
  rw [List.getElem?_set, if_neg (fun e' => by subst e'; rw [h] at e; cases e)]; exact e
def setO (H : List O) (p : Nat) : Option O → List O
  | some o => H.set p o
  | none => H
theorem evFill_inv {p : Nat} {a : Alc} (h : evFill p a s H = some (v, H')) : H[p]? = some .hole ∧ ∃ f ob, evN a s H = some (f, ob) ∧ v = f p ∧ H' = setO H p ob := by
  unfold evFill at h
  split at h
  · rename_i hp
    split at h
    · rename_i f o e; cases h; exact ⟨hp, f, some o, e, rfl, rfl⟩
    · rename_i f e; cases h; exact ⟨hp, f, none, e, rfl, rfl⟩
    · cases h
  · cases h
theorem evFill_of {p : Nat} {a : Alc} {f : Nat → V} {ob : Option O} (hp : H[p]? = some .hole) (e : evN a s H = some (f, ob)) : evFill p a s H = some (f p, setO H p ob) := by
  unfold evFill
  rw [hp]
  simp only [e]
  cases ob <;> rfl
theorem evN_keeps {a : Alc} {r : (Nat → V) × Option O} (k : Keeps H H') (e : evN a s H = some r) : evN a s H' = some r := by
  cases a
  case appn t sz b y =>
    simp only [evN] at e ⊢
    split at e
    · rename_i q hq
      rw [k.sliceV hq]; exact e
    · cases e
  all_goals exact e
theorem evN_any {a : Alc} (h : a.reads = false) : evN a s H = evN a s H' := by
  cases a <;> first | rfl | cases h
theorem fill_swap {p q : Nat} {a b : Alc} {vx vy : V} {Hx Hy : List O} (h : swapF (.fill p a) (.fill q b) = true) (h1 : evFill p a s H = some (vx, Hx)) (h2 : evFill q b s Hx = some (vy, Hy)) :
    ∃ H3, evFill q b s H = some (vy, H3) ∧ evFill p a s H3 = some (vx, Hy) := by
  simp only [swapF, Bool.and_eq_true, bne_iff_ne, ne_eq, Bool.not_eq_true'] at h
  obtain ⟨hne, hr⟩ := h
  obtain ⟨hp, f, ob, e1, rfl, rfl⟩ := evFill_inv h1
  obtain ⟨hq, g, oc, e2, rfl, rfl⟩ := evFill_inv h2
  have hq0 : H[q]? = some .hole := by
    cases ob with
    | none => exact hq
    | some o => simp only [setO] at hq; rw [List.getElem?_set, if_neg hne] at hq; exact hq
  rw [evN_any (H' := H) hr] at e2
  refine ⟨_, evFill_of hq0 e2, ?_⟩
  have hk : Keeps H (setO H q oc) := by
    cases oc with
    | none => exact .refl
    | some o => exact .set hq0
  have hp0 : (setO H q oc)[p]? = some .hole := by
    cases oc with
    | none => exact hp
    | some o => simp only [setO]; rw [List.getElem?_set, if_neg (fun e => hne e.symm)]; exact hp
  rw [evFill_of hp0 (evN_keeps hk e1)]
  cases ob <;> cases oc <;> simp only [setO]
  rw [List.set_comm _ _ (fun e => hne e.symm)]

/-- Calls of these only read. -/
def Reads (call : Callee) (pure : FuncId → Bool) : Prop := ∀ f args H r H', pure f = true → call f args H = some (r, H') → H' = H ∧ ∀ H2, Keeps H H2 → call f args H2 = some (r, H2)

theorem light0 {pure : FuncId → Bool} {i : Ins} (hk : i.kind pure = 0) (he : evI i s H = some (v, H')) : H' = H ∧ ∀ H2, evI i s H2 = some (v, H2) := by
  have map1 : ∀ {α : Type} {x : Option α} {f : α → V}, (x.map fun a => (f a, H)) = some (v, H') → H' = H ∧ ∀ H2 : List O, (x.map fun a => (f a, H2)) = some (v, H2) := by
    intro α x f h
    obtain ⟨a, ha, e⟩ := Option.map_eq_some_iff.1 h
    cases e
    exact ⟨rfl, fun H2 => by rw [ha]; rfl⟩
  cases i <;> try (exfalso; revert hk; simp [Ins.kind]; done)
  all_goals simp only [evI] at he ⊢
  case mv => cases he; exact ⟨rfl, fun _ => rfl⟩
  case pick => split at he <;> cases he; exact ⟨rfl, fun _ => rfl⟩
  case bin | un | build | ext | len | fld | ixa | iaa | aeq | idx | cap | slen | beq | snil | wrap | sst | nilc | off | ia | sls =>
    repeat' split at he
    all_goals first
      | cases he; done
      | exact map1 he
      | (cases he; exact ⟨rfl, fun _ => rfl⟩)
      | (cases he; refine ⟨rfl, fun _ => ?_⟩; simp_all)
      | (obtain ⟨rfl, h⟩ := map1 he; refine ⟨rfl, fun _ => ?_⟩; simp_all)
  case clo => cases he; exact ⟨rfl, fun _ => rfl⟩
  case slc sz x lo hi mx =>
    have hlo : lo = none := by
      cases lo with
      | none => rfl
      | some y => simp [Ins.kind] at hk
    subst hlo
    cases mx with
    | some m =>
      simp only [evI] at he ⊢
      repeat' split at he
      all_goals first
        | cases he; done
        | (cases he; refine ⟨rfl, fun _ => ?_⟩; simp_all)
    | none =>
      simp only [optI, evI] at he ⊢
      split at he
      · rename_i len hl
        cases h2 : optI s (len : Int) hi with
        | none => simp only [optI] at h2; simp only [h2] at he; cases he
        | some q =>
          simp only [optI] at h2
          simp only [h2] at he ⊢
          split at he
          · rename_i hb
            simp only [if_pos hb]
            split at he
            · cases he; exact ⟨rfl, fun _ => rfl⟩
            · cases he; exact ⟨rfl, fun _ => rfl⟩
            · rename_i h o n ex
              have e1 : ¬ ((0 : Int) = q ∧ (0 : Int) ≠ 0) := fun h => h.2 rfl
              rw [if_neg e1, if_pos (.inl trivial)] at he
              cases he
              exact ⟨rfl, fun _ => by rw [if_neg e1, if_pos (.inl trivial)]⟩
            · rename_i t l n ex
              split at he
              · rename_i h1
                cases he; exact ⟨rfl, fun _ => by rw [if_pos h1]⟩
              · cases he
            · cases he
          · cases he
      · cases he
  case app a b c x y =>
    exfalso
    revert hk
    cases x with
    | t k => simp [Ins.kind]
    | c u => cases u <;> simp [Ins.kind]
  case call => exfalso; simp only [Ins.kind] at hk; split at hk <;> simp_all
theorem light1 {pure : FuncId → Bool} {i : Ins} (hk : i.kind pure = 1) (he : evI i s H = some (v, H')) : H' = H ∧ ∀ H2, Keeps H H2 → evI i s H2 = some (v, H2) := by
  cases i <;> try (exfalso; revert hk; simp [Ins.kind]; done)
  case ld sz x =>
    simp only [evI] at he ⊢
    split at he
    · rename_i h o ex
      split at he
      · rename_i l t z ho
        obtain ⟨u, hu, e⟩ := Option.map_eq_some_iff.1 he
        cases e
        exact ⟨rfl, fun H2 k => by rw [k.getO ho]; simp only [hu]; rfl⟩
      · cases he
    · rename_i q l o ex
      obtain ⟨u, hu, e⟩ := Option.map_eq_some_iff.1 he
      cases e
      exact ⟨rfl, fun H2 k => by simp only [hu]; rfl⟩
    · cases he
  case str x =>
    simp only [evI] at he ⊢
    split at he
    · rename_i l m hl
      obtain ⟨u, hu, e⟩ := Option.map_eq_some_iff.1 he
      cases e
      exact ⟨rfl, fun H2 k => by rw [k.sliceV hl]; simp only [hu]; rfl⟩
    · cases he
  case slc sz x lo hi mx =>
    cases mx with
    | some m =>
      simp only [evI] at he ⊢
      repeat' split at he
      all_goals first
        | cases he; done
        | (cases he; refine ⟨rfl, fun _ _ => ?_⟩; simp_all)
    | none =>
      simp only [evI] at he ⊢
      split at he
      · rename_i len hl
        split at he
        · rename_i p q e1 e2
          split at he
          · rename_i hb
            simp only [e1, e2, if_pos hb]
            split at he
            · cases he; exact ⟨rfl, fun _ _ => rfl⟩
            · cases he; exact ⟨rfl, fun _ _ => rfl⟩
            · rename_i h o n ex
              split at he
              · rename_i h1
                cases he; exact ⟨rfl, fun _ _ => by rw [if_pos h1]⟩
              · rename_i h1
                split at he
                · rename_i h2
                  cases he
                  refine ⟨rfl, fun H2 k => ?_⟩
                  rw [if_neg h1, if_pos]
                  rcases h2 with h2 | h2
                  · exact .inl h2
                  · right
                    unfold szO at *
                    cases hg : getO H h with
                    | none => rw [hg] at h2; cases h2
                    | some r => rw [k.getO hg]; rw [hg] at h2; exact h2
                · cases he
            · rename_i t l n ex
              split at he
              · rename_i h1
                cases he; exact ⟨rfl, fun _ _ => by rw [if_pos h1]⟩
              · cases he
            · cases he
          · cases he
        · cases he
      · cases he
  case app a b c x y =>
    exfalso
    revert hk
    cases x with
    | t k => simp [Ins.kind]
    | c u => cases u <;> simp [Ins.kind]
  case call => simp only [evI] at he; cases he

/-- What makes an object or calls what only reads keeps what was there. -/
theorem keeps2 {pure : FuncId → Bool} {i : In} (hp : Reads call pure) (hk : i.i.kind pure ≠ 3) (he : evG call i s H = some (v, H')) : Keeps H H' := by
  obtain ⟨d, g, i⟩ := i
  unfold evG at he
  simp only at he hk
  split at he
  rotate_left
  · cases he; exact .refl
  have low : i.kind pure = 0 ∨ i.kind pure = 1 → evI i s H = some (v, H') → Keeps H H' := by
    rintro (h | h) e
    · rw [(light0 h e).1]; exact .refl
    · rw [(light1 h e).1]; exact .refl
  cases i
  case call f l =>
    simp only [Ins.kind] at hk
    have hf : pure f = true := by
      cases h : pure f
      · rw [h] at hk; exact absurd rfl hk
      · rfl
    rw [(hp f _ H v H' hf he).1]; exact .refl
  case callv => exact absurd rfl hk
  case new z t => simp only [evI] at he; cases he; exact .app
  case bsz t sz => simp only [evI] at he; cases he; exact .app
  case fill p a =>
    obtain ⟨hp', f, ob, _, _, rfl⟩ := evFill_inv he
    cases ob with
    | none => exact .refl
    | some o => exact .set hp'
  case box x t => simp only [evI] at he; split at he <;> cases he; exact .app
  case bsl t sz n z ps =>
    simp only [evI] at he
    split at he
    · split at he <;> cases he; exact .app
    · cases he
  case mk t sz b z x y =>
    simp only [evI] at he
    split at he
    · split at he <;> cases he; exact .app
    · cases he
  case app t sz b x y =>
    have hx : ∃ u, x = .c (.lit u) := by
      cases x with
      | t n => exact absurd rfl hk
      | c u =>
        cases u with
        | lit u => exact ⟨u, rfl⟩
        | _ => exact absurd rfl hk
    obtain ⟨u, rfl⟩ := hx
    simp only [evI, Opd.ev] at he
    split at he
    · split at he
      · split at he
        · cases he; exact .refl
        · split at he <;> cases he; exact .app
      · rename_i e; cases e
      · rename_i e; cases e
      · cases he
    · cases he
  case slc sz x lo hi mx =>
    cases lo with
    | none => exact low (.inl rfl) he
    | some y => exact low (.inr rfl) he
  all_goals first
    | exact absurd rfl hk
    | exact low (.inl rfl) he
    | exact low (.inr rfl) he

theorem put_comm {d e : Option Nat} {u : V} (h : ∀ k, d = some k → e ≠ some k) : put (put s d v) e u = put (put s e u) d v := by
  cases d with
  | none => rfl
  | some d =>
    cases e with
    | none => rfl
    | some e =>
      have hne : d ≠ e := fun he => h d rfl (by rw [he])
      funext t
      simp only [put, upd]
      by_cases h1 : t = d
      · subst h1; simp [hne]
      · simp [h1]
theorem put_at {d : Option Nat} {t : Nat} (h : ∀ k, d = some k → t ≠ k) : put s d v t = s t := by
  cases d with
  | none => rfl
  | some d => simp only [put, upd]; rw [if_neg (h d rfl)]

/-- What a look that holds leaves alone. -/
theorem aside_keeps {x y : Ins} {s : Nat → V} {H Hy : List O} {vx vy : V} (h : aside x y = true) (hx : evI x s H = some (vx, H)) (hy : evI y s H = some (vy, Hy)) : evI x s Hy = some (vx, Hy) := by
  unfold aside at h
  split at h
  · rename_i sz k ks z p q
    simp only [evI] at hy
    split at hy
    rotate_left
    · cases hy
    rename_i hall
    have hap := List.all_eq_true.1 hall k (by simpa using h)
    simp only [evI, Opd.ev] at hx ⊢
    unfold evSt at hy
    split at hy
    · rename_i hh o ep
      split at hy
      · rename_i l t z' ho
        simp only at hy
        split at hy
        · cases hy
          split at hx
          · rename_i b o' es
            rw [es, ep] at hap
            have hne : b ≠ hh := by simpa [apartV] using hap
            have hg : getO (H.set hh (.cells (l.take o ++ (q.ev s).cells ++ l.drop (o + z)) t z')) b = getO H b := by
              unfold getO; rw [List.getElem?_set, if_neg (fun e => hne e.symm)]
            rw [hg]
            split at hx
            · rename_i l2 t2 z2 hg2
              obtain ⟨u, hu, e⟩ := Option.map_eq_some_iff.1 hx
              cases e
              simp only [hu, Option.map_some]
            · cases hx
          · obtain ⟨u, hu, e⟩ := Option.map_eq_some_iff.1 hx
            cases e
            simp only [hu, Option.map_some]
          · cases hx
        · cases hy
      · cases hy
    · cases hy
  · rename_i sz k ks t z by_ p q
    simp only [evI] at hy
    split at hy
    rotate_left
    · cases hy
    rename_i hall
    have hap := List.all_eq_true.1 hall k (by simpa using h)
    simp only [evI, Opd.ev] at hx ⊢
    have keep : ∀ (b : Nat) (r : List V × TypeId × Nat), (∀ n, p.ev s ≠ .osl b 0 n) → getO H b = some r → getO Hy b = some r := by
      intro b r hne hg
      have hlt : b < H.length := by
        unfold getO at hg
        split at hg
        · rename_i ho; exact (List.getElem?_eq_some_iff.1 ho).1
        · cases hg
      have app : ∀ l : List O, getO (H ++ l) b = getO H b := fun l => by unfold getO; rw [List.getElem?_append_left hlt]
      unfold evApp at hy
      split at hy
      · split at hy
        · split at hy
          · cases hy; exact hg
          · split at hy <;> cases hy; rw [app]; exact hg
        · split at hy
          · cases hy; exact hg
          · split at hy <;> cases hy; rw [app]; exact hg
        · rename_i hh n ep
          split at hy
          · split at hy <;> cases hy
            have hb : hh ≠ b := fun e => hne n (by rw [ep, e])
            have app2 : ∀ l : List O, getO (H.set hh .dead ++ l) b = getO H b := fun l => by
              unfold getO
              rw [List.getElem?_append_left (by simpa using hlt), List.getElem?_set, if_neg hb]
            rw [app2]; exact hg
          · cases hy
        · cases hy
      · cases hy
    split at hx
    · rename_i b o' es
      split at hx
      · rename_i l2 t2 z2 hg2
        obtain ⟨u, hu, e⟩ := Option.map_eq_some_iff.1 hx
        cases e
        have hne : ∀ n, p.ev s ≠ .osl b 0 n := fun n e => by rw [es, e] at hap; simp [apartV] at hap
        rw [keep b _ hne hg2]
        simp only [hu, Option.map_some]
      · cases hx
    · obtain ⟨u, hu, e⟩ := Option.map_eq_some_iff.1 hx
      cases e
      simp only [hu, Option.map_some]
    · cases hx
  · cases h

/-- x, which was first, may come second. -/
theorem evO_swap {pure : FuncId → Bool} (hp : Reads call pure) {x y : In} (h : post pure x y = true) {st st1 st2 : St} (h1 : evO call x st = some st1) (h2 : evO call y st1 = some st2) :
    ∃ st3, evO call y st = some st3 ∧ evO call x st3 = some st2 := by
  unfold post at h
  simp only [Bool.and_eq_true] at h
  obtain ⟨⟨hk, hx⟩, hy⟩ := h
  rw [evO_eq] at h1 h2
  obtain ⟨⟨vx, Hx⟩, g1, e1⟩ := Option.map_eq_some_iff.1 h1
  obtain ⟨⟨vy, Hy⟩, g2, e2⟩ := Option.map_eq_some_iff.1 h2
  subst e1
  simp only at g2 e2
  have hxd : ∀ k, x.d = some k → k ∉ y.slots ∧ y.d ≠ some k := fun k e => by
    rw [e] at hx
    simp only [Bool.and_eq_true, Bool.not_eq_true', List.contains_eq_mem, decide_eq_false_iff_not, bne_iff_ne, ne_eq] at hx
    exact ⟨hx.1, hx.2⟩
  have hyd : ∀ k, y.d = some k → k ∉ x.slots := fun k e => by
    rw [e] at hy
    simpa using hy
  have g3' : evG call y st.1 Hx = some (vy, Hy) := by
    rw [← g2]
    exact evG_congr fun t ht => (put_at fun k e => fun e' => (hxd k e).1 (e' ▸ ht)).symm
  have hlight : ∃ H3, evG call y st.1 st.2 = some (vy, H3) ∧ evG call x st.1 H3 = some (vx, Hy) := by
    simp only [Bool.or_eq_true, Bool.and_eq_true] at hk
    rcases hk with (hk | hsw) | ⟨⟨ha, hgx⟩, hgy⟩
    · have main : Hx = st.2 ∧ ∀ H2, (y.i.kind pure ≠ 3 → Keeps st.2 H2) → evG call x st.1 H2 = some (vx, H2) := by
        simp only [beq_iff_eq, bne_iff_ne, ne_eq] at hk
        obtain ⟨d, g, i⟩ := x
        have nov : ∀ {f l}, i ≠ .callv f l := fun {f l} e => by subst e; simp [Ins.kind] at hk
        unfold evG at g1 ⊢
        simp only at g1 hk ⊢
        split at g1
        · rename_i hw
          simp only [hw, if_true]
          by_cases hcl : ∃ f l, i = .call f l
          · obtain ⟨f, l, rfl⟩ := hcl
            simp only [Ins.kind] at hk
            have hf : pure f = true := by
              cases h : pure f
              · rw [h] at hk; simp at hk
              · rfl
            simp only [hf, if_true] at hk
            obtain ⟨q1, q2⟩ := hp f _ _ _ _ hf g1
            exact ⟨q1, fun H2 h => q2 H2 (h (by rcases hk with h | h; cases h; exact h.2))⟩
          · have no : ∀ {f l}, i ≠ .call f l := fun {f l} e => hcl ⟨f, l, e⟩
            have g1' : evI i st.1 st.2 = some (vx, Hx) := by
              cases i <;> first | exact g1 | exact (no rfl).elim | exact (nov rfl).elim
            have fin : ∀ H2, evI i st.1 H2 = some (vx, H2) → evG call ⟨d, none, i⟩ st.1 H2 = some (vx, H2) := fun H2 h => by
              unfold evG
              simp only [wantB, if_true]
              cases i <;> first | exact h | exact (no rfl).elim | exact (nov rfl).elim
            rcases hk with hk | ⟨hk, hk3⟩
            · obtain ⟨q1, q2⟩ := light0 hk g1'
              exact ⟨q1, fun H2 _ => fin H2 (q2 H2)⟩
            · obtain ⟨q1, q2⟩ := light1 hk g1'
              exact ⟨q1, fun H2 h => fin H2 (q2 H2 (h hk3))⟩
        · rename_i hw
          cases g1
          exact ⟨rfl, fun H2 _ => by rw [if_neg hw]⟩
      obtain ⟨rfl, hl⟩ := main
      exact ⟨Hy, g3', hl Hy fun h3 => keeps2 hp h3 g3'⟩
    · obtain ⟨d, g, i⟩ := x
      obtain ⟨d', g', i'⟩ := y
      simp only at hsw
      have hi : ∃ p a q b, i = .fill p a ∧ i' = .fill q b := by
        unfold swapF at hsw
        split at hsw
        · exact ⟨_, _, _, _, rfl, rfl⟩
        · cases hsw
      obtain ⟨p, a, q, b, rfl, rfl⟩ := hi
      unfold evG at g1 g3' ⊢
      simp only at g1 g3' ⊢
      by_cases w1 : wantB st.1 g = true
      · rw [if_pos w1] at g1
        by_cases w2 : wantB st.1 g' = true
        · rw [if_pos w2] at g3'
          obtain ⟨H3, q1, q2⟩ := fill_swap hsw g1 g3'
          exact ⟨H3, by rw [if_pos w2]; exact q1, by rw [if_pos w1]; exact q2⟩
        · rw [if_neg w2] at g3'
          cases g3'
          exact ⟨st.2, by rw [if_neg w2], by rw [if_pos w1]; exact g1⟩
      · rw [if_neg w1] at g1
        cases g1
        exact ⟨Hy, g3', by rw [if_neg w1]⟩
    · obtain ⟨d, g, i⟩ := x
      obtain ⟨d', g', i'⟩ := y
      simp only [Option.isNone_iff_eq_none] at hgx hgy
      subst hgx; subst hgy
      simp only at ha
      have hi : ∃ sz k, i = .ld sz (.t k) := by
        unfold aside at ha
        split at ha
        · exact ⟨_, _, rfl⟩
        · exact ⟨_, _, rfl⟩
        · cases ha
      have hi' : evI i' st.1 Hx = some (vy, Hy) := by
        unfold aside at ha
        split at ha
        · exact g3'
        · exact g3'
        · cases ha
      obtain ⟨sz, k, rfl⟩ := hi
      have g1' : evI (.ld sz (.t k)) st.1 st.2 = some (vx, Hx) := g1
      obtain ⟨rfl, _⟩ := light1 (pure := pure) rfl g1'
      exact ⟨Hy, g3', aside_keeps ha g1' hi'⟩
  obtain ⟨H3, g5', g4'⟩ := hlight
  refine ⟨(put st.1 y.d vy, H3), by rw [evO_eq, g5']; rfl, ?_⟩
  have g4 : evG call x (put st.1 y.d vy) H3 = some (vx, Hy) := by
    rw [← g4']
    exact evG_congr fun t ht => put_at fun k e => fun e' => hyd k e (e' ▸ ht)
  rw [evO_eq]
  simp only [g4, Option.map_some]
  rw [← e2, put_comm fun k e e' => (hxd k e').2 e]

theorem evL_cons {i : In} {l : List In} {st st' : St} : evL call (i :: l) st = some st' ↔ ∃ st1, evO call i st = some st1 ∧ evL call l st1 = some st' := by
  simp only [evL]
  cases evO call i st with
  | none => simp
  | some st1 => simp
theorem withLooks_d (ks : List Nat) (y : In) : (withLooks ks y).d = y.d ∧ (withLooks ks y).g = y.g := by
  unfold withLooks
  split
  · exact ⟨rfl, rfl⟩
  · split <;> exact ⟨rfl, rfl⟩
theorem withLooks_same (ks : List Nat) {y : In} (h : y.i.looks = false) : withLooks ks y = y := by
  obtain ⟨d, g, i⟩ := y
  unfold withLooks
  split
  · rfl
  · cases i <;> first | rfl | cases h
theorem withLooks_slots {ks : List Nat} {y : In} {t : Nat} (h : t ∈ (withLooks ks y).slots) : t ∈ ks ∨ t ∈ y.slots := by
  obtain ⟨d, g, i⟩ := y
  unfold withLooks at h
  split at h
  · exact .inr h
  · split at h
    · rename_i sz a b e
      simp only at e; subst e
      simp only [In.slots, Ins.slots, List.mem_append] at h ⊢
      rcases h with ((h | h) | h) | h
      · exact .inl h
      · exact .inr (.inl (.inl h))
      · exact .inr (.inl (.inr h))
      · exact .inr (.inr h)
    · rename_i t' sz by_ a b e
      simp only at e; subst e
      simp only [In.slots, Ins.slots, List.mem_append] at h ⊢
      rcases h with ((h | h) | h) | h
      · exact .inl h
      · exact .inr (.inl (.inl h))
      · exact .inr (.inl (.inr h))
      · exact .inr (.inr h)
    · exact .inr h
/-- Fewer looks. -/
theorem looks_less {ks ks' : List Nat} (hs : ∀ k ∈ ks', k ∈ ks) {y : In} {st st' : St} (h : evO call (withLooks ks y) st = some st') : evO call (withLooks ks' y) st = some st' := by
  obtain ⟨d, g, i⟩ := y
  by_cases hl : i.looks = false
  · rw [withLooks_same _ hl] at h ⊢; exact h
  · have base : ∀ ks, evO call (withLooks ks ⟨d, g, i⟩) st = some st' ↔ (wantB st.1 g = true → ∀ k ∈ ks, apartV (st.1 k) ((match i with
        | .st _ a _ => a
        | .app _ _ _ a _ => a
        | _ => .c .none_).ev st.1) = true) ∧ evO call ⟨d, g, i⟩ st = some st' := by
      intro ks
      cases ks with
      | nil => simp [withLooks]
      | cons k ks =>
        cases i <;> try exact absurd rfl hl
        · rename_i sz a b
          simp only [withLooks, evO]
          by_cases hw : wantB st.1 g = true
          · simp only [hw, if_true, forall_const]
            by_cases hall : (k :: ks).all (fun k => apartV (st.1 k) (a.ev st.1)) = true
            · have := List.all_eq_true.1 hall
              rw [show evI (.stD (k :: ks) sz a b) st.1 st.2 = evI (.st sz a b) st.1 st.2 by rw [← evSt_eq]; simp only [evI, if_pos hall]]
              exact ⟨fun h => ⟨this, h⟩, fun h => h.2⟩
            · rw [show evI (.stD (k :: ks) sz a b) st.1 st.2 = none by simp only [evI]; rw [if_neg hall]]
              exact ⟨fun h => (by cases h), fun h => absurd (List.all_eq_true.2 h.1) hall⟩
          · simp [hw]
        · rename_i t sz by_ a b
          simp only [withLooks, evO]
          by_cases hw : wantB st.1 g = true
          · simp only [hw, if_true, forall_const]
            by_cases hall : (k :: ks).all (fun k => apartV (st.1 k) (a.ev st.1)) = true
            · have := List.all_eq_true.1 hall
              rw [show evI (.appD (k :: ks) t sz by_ a b) st.1 st.2 = evI (.app t sz by_ a b) st.1 st.2 by rw [← evApp_eq]; simp only [evI, if_pos hall]]
              exact ⟨fun h => ⟨this, h⟩, fun h => h.2⟩
            · rw [show evI (.appD (k :: ks) t sz by_ a b) st.1 st.2 = none by simp only [evI]; rw [if_neg hall]]
              exact ⟨fun h => (by cases h), fun h => absurd (List.all_eq_true.2 h.1) hall⟩
          · simp [hw]
    rw [base] at h ⊢
    exact ⟨fun hw k hk => h.1 hw k (hs k hk), h.2⟩
theorem looks_none {ks : List Nat} {y : In} {st st' : St} (h : evO call (withLooks ks y) st = some st') : evO call y st = some st' := looks_less (ks' := []) (fun k hk => by simp at hk) h

theorem post_of {pure : FuncId → Bool} {x y : In} {ks ks2 : List Nat} (h : postL pure x y ks = true) (hs : ∀ k ∈ ks2, k ∈ ks ∧ x.d ≠ some k) (hk : ∀ k, x.i.ldOf = some k → k ∈ ks → x.d ≠ some k → k ∈ ks2) : post pure x (withLooks ks2 y) = true := by
  unfold postL at h
  unfold post
  simp only [Bool.and_eq_true] at h ⊢
  obtain ⟨⟨h1, h2⟩, h3⟩ := h
  refine ⟨⟨?_, ?_⟩, ?_⟩
  · simp only [Bool.or_eq_true] at h1 ⊢
    rcases h1 with ((h1 | h1) | h1) | h1
    · exact .inl (.inl (.inl h1))
    · simp only [Bool.and_eq_true] at h1 ⊢
      refine .inl (.inl (.inr ⟨h1.1, ?_⟩))
      obtain ⟨d, g, i⟩ := y
      cases ks with
      | nil =>
        have : ks2 = [] := by
          cases ks2 with
          | nil => rfl
          | cons k _ => have := (hs k List.mem_cons_self).1; simp at this
        subst this; exact h1.2
      | cons k0 ks =>
        cases hl : i.looks with
        | false => rw [withLooks_same _ hl] at h1 ⊢; exact h1.2
        | true =>
          exfalso
          cases i <;> first | (simp [withLooks, Ins.kind] at h1; done) | cases hl
    · refine .inl (.inr ?_)
      rw [withLooks_same _ (by obtain ⟨d, g, i⟩ := y; cases hx : x.i <;> rw [hx] at h1 <;> cases i <;> first | rfl | cases h1)]
      exact h1
    · right
      split at h1
      · rename_i k hkl
        simp only [Bool.and_eq_true, bne_iff_ne, ne_eq, List.contains_eq_mem, decide_eq_true_eq] at h1 ⊢
        obtain ⟨⟨⟨⟨a1, a2⟩, a3⟩, a4⟩, a5⟩ := h1
        have hk2 := hk k hkl a1 a5
        refine ⟨⟨?_, a3⟩, by rw [(withLooks_d _ _).2]; exact a4⟩
        obtain ⟨d, g, i⟩ := y
        obtain ⟨d', g', i'⟩ := x
        have hx : ∃ sz, i' = .ld sz (.t k) := by
          unfold Ins.ldOf at hkl
          split at hkl <;> cases hkl
          rename_i e; exact ⟨_, e⟩
        obtain ⟨sz, rfl⟩ := hx
        cases ks2 with
        | nil => simp at hk2
        | cons k0 ks2 =>
          cases i <;> first | cases a2; done | (simp only [withLooks, aside, List.contains_eq_mem, decide_eq_true_eq]; exact hk2)
      · cases h1
  · cases hd : x.d with
    | none => rfl
    | some d =>
      rw [hd] at h2
      simp only [Bool.and_eq_true, Bool.not_eq_true', List.contains_eq_mem, decide_eq_false_iff_not, bne_iff_ne, ne_eq] at h2 ⊢
      refine ⟨fun hm => ?_, by rw [(withLooks_d _ _).1]; exact h2.2⟩
      rcases withLooks_slots hm with h | h
      · exact (hs d h).2 hd
      · exact h2.1 h
  · rw [(withLooks_d _ _).1]; exact h3

/-- What is passed is neither a store nor an append. -/
theorem postL_plain {pure : FuncId → Bool} {x y : In} {ks : List Nat} (h : postL pure x y ks = true) : ∀ ls, withLooks ls x = x := by
  intro ls
  obtain ⟨d, g, i⟩ := x
  refine withLooks_same _ ?_
  unfold postL at h
  simp only [Bool.and_eq_true] at h
  have h1 := h.1.1
  cases i <;> first | rfl | (exfalso; revert h1; simp [Ins.kind, Ins.ldOf, swapF]; done) | skip
  exfalso
  rename_i t sz by_ a b
  revert h1
  cases a with
  | t n => simp [Ins.kind, Ins.ldOf, swapF]
  | c v => cases v <;> simp [Ins.kind, Ins.ldOf, swapF]

/-- One that all before it let pass may be first. -/
theorem evL_front {pure : FuncId → Bool} (hp : Reads call pure) {y : In} {ks : List Nat} {l2 : List In} {st' : St} : ∀ {l1 : List In} {st : St}, (∀ x ∈ l1, postL pure x y ks = true) → (l1.Pairwise fun x z => ∀ k, x.i.ldOf = some k → k ∈ ks → z.d ≠ some k) → evL call (l1 ++ withLooks ks y :: l2) st = some st' →
    ∃ st1, evO call (withLooks (ks.filter fun k => l1.all fun x => x.d != some k) y) st = some st1 ∧ evL call (l1 ++ l2) st1 = some st'
  | [], st, _, _, h => by
    obtain ⟨st1, h1, h2⟩ := evL_cons.1 h
    exact ⟨st1, looks_less (fun k hk => (List.mem_filter.1 hk).1) h1, h2⟩
  | x :: l1, st, hx, hw, h => by
    obtain ⟨st1, h1, h2⟩ := evL_cons.1 h
    obtain ⟨hw1, hw2⟩ := List.pairwise_cons.1 hw
    obtain ⟨st2, h3, h4⟩ := evL_front hp (fun y hy => hx y (List.mem_cons_of_mem _ hy)) hw2 h2
    have hmem : ∀ k, k ∈ (ks.filter fun k => (x :: l1).all fun x => x.d != some k) ↔ k ∈ ks ∧ x.d ≠ some k ∧ ∀ z ∈ l1, z.d ≠ some k := fun k => by
      simp [List.mem_filter]
    have h3' := looks_less (ks' := ks.filter fun k => (x :: l1).all fun x => x.d != some k) (fun k hk => by
      obtain ⟨q1, q2, q3⟩ := (hmem k).1 hk
      exact List.mem_filter.2 ⟨q1, by simpa using q3⟩) h3
    have hpo := post_of (hx x List.mem_cons_self) (ks2 := ks.filter fun k => (x :: l1).all fun x => x.d != some k) (fun k hk => ⟨((hmem k).1 hk).1, ((hmem k).1 hk).2.1⟩) (fun k hk hks hd => (hmem k).2 ⟨hks, hd, fun z hz => hw1 z hz k hk hks⟩)
    obtain ⟨st3, h5, h6⟩ := evO_swap hp hpo h1 h3'
    exact ⟨st3, h5, evL_cons.2 ⟨st2, h6, h4⟩⟩
end Go.Proofs.Vm
/-! New objects for numbers that were kept. -/
namespace Go.Proofs.Vm
open Go

section
variable {P : Program} {n : Nat} {Lc : Nat → Loc} {m0 m1 : Mem} {H H' : List O} {w : World} {s : Nat → V} {a : Act} {o : Oper} {v : V} {i : Ins}

/-- What the operation yields for any number. -/
inductive Made (P : Program) (o : Oper) (a : Act) (w : World) (n : Nat) (Lc : Nat → Loc) (m0 m1 : Mem) : (Nat → V) → Option O → Prop
  | non (x : Value) (v : V) : (execOp a.eval o).run P w = .ok (.value x) w → VR n Lc m0 m1 v x → Made P o a w n Lc m0 m1 (fun _ => v) none
  | ptr (w1 : World) (l : List V) (t : TypeId) (z cap : Nat) (arr : Array Value) : w1 = w ∨ w1 = w.drew → (execOp a.eval o).run P w = .ok (.value (.pointer (some ⟨w.heap.size, 0, none⟩))) (w1.alloc (.cells arr t)) →
      0 < z → arr.size = cap * z → cap ≤ maxLen → l.length ≤ arr.size → (∀ j (hj : j < l.length) (hj' : j < arr.size), arr[j].oneCell' = true ∧ VR n Lc m0 m1 l[j] arr[j]) → Made P o a w n Lc m0 m1 (fun p => .optr p 0) (some (.cells l t z))
  | row (w1 : World) (l : List V) (t : TypeId) (z cap len : Nat) (arr : Array Value) : w1 = w ∨ w1 = w.drew → (execOp a.eval o).run P w = .ok (.value (.slice (some ⟨w.heap.size, 0, none⟩) len cap)) (w1.alloc (.cells arr t)) →
      0 < z → arr.size = cap * z → cap ≤ maxLen → len ≤ cap → l.length ≤ arr.size → (∀ j (hj : j < l.length) (hj' : j < arr.size), arr[j].oneCell' = true ∧ VR n Lc m0 m1 l[j] arr[j]) → Made P o a w n Lc m0 m1 (fun p => .osl p 0 len) (some (.cells l t z))

theorem Made.fill {f : Nat → V} {ob : Option O} (h : Made P o a w n Lc m0 m1 f ob) (hm : MemR n Lc m0 m1 H w) {p : Nat} (hp : H[p]? = some .hole) : Ok1 P o a w n Lc m0 m1 (f p) (setO H p ob) := by
  have step : ∀ w1 : World, w1 = w ∨ w1 = w.drew → MemR n Lc m0 m1 H w1 ∧ Stp n Lc w n Lc w1 ∧ w1.heap.size = w.heap.size := fun w1 h => by
    rcases h with rfl | rfl
    · exact ⟨hm, Stp.refl _ _ _, rfl⟩
    · exact ⟨mem_drew hm, Stp.drew n Lc w, rfl⟩
  have hpn : p < n := by rw [← hm.len]; exact (List.getElem?_eq_some_iff.1 hp).1
  cases h with
  | non x v hr hv => exact .same hm hr hv
  | ptr w1 l t z cap arr hw hr hz ha hc hl hv =>
    obtain ⟨k1, k2, k3⟩ := step w1 hw
    obtain ⟨q1, q2⟩ := k1.fill hp (l := l) (t := t) hz ha hc hl hv
    refine ⟨_, _, _, _, hr, .inr ⟨_, rfl, ?_⟩, q1, k2.trans q2⟩
    have := VR.optr (n := n) (Lc := addL Lc p ⟨w1.heap.size, z, cap⟩) (m0 := m0) (m1 := m1) p 0 ⟨hpn, by simp [addL]; exact hz⟩
    simpa [addL, k3] using this
  | row w1 l t z cap len arr hw hr hz ha hc hlen hl hv =>
    obtain ⟨k1, k2, k3⟩ := step w1 hw
    obtain ⟨q1, q2⟩ := k1.fill hp (l := l) (t := t) hz ha hc hl hv
    refine ⟨_, _, _, _, hr, .inr ⟨_, rfl, ?_⟩, q1, k2.trans q2⟩
    have := VR.osl (n := n) (Lc := addL Lc p ⟨w1.heap.size, z, cap⟩) (m0 := m0) (m1 := m1) p 0 len cap ⟨hpn, by simp [addL]; exact hz⟩ hlen (by simp [addL])
    simpa [addL, k3] using this

theorem made_alloc {e : TypeId} {z : List V} (hop : o.op = .alloc e) (hz : zeroT P e = some z) : Made P o a w n Lc m0 m1 (fun p => .optr p 0) (some (.cells z e z.length)) := by
  obtain ⟨i, zv, hi, hzv, hsz, rfl, hall, h0⟩ := zero_ok hz
  refine .ptr w _ _ _ 1 zv.cells (.inl rfl) ?_ (by simp [hsz, h0]) (by simp) (by simp [maxLen]) (by simp) (cells_rel (lits_rel (n := n) (Lc := Lc) (m0 := m0) (m1 := m1) _).2 hall)
  simp [execOp, hop, Instr.alloc, zeroValue, typeInfo, hi, hzv, newVar, Go.newRow]

theorem made_bsl {t e : TypeId} {m sz by_ : Nat} {parts : Array (Nat × Operand)} {z l : List V} {qs : List (Nat × Nat × Opd)} (hop : o.op = .buildSlice t m parts) (ht : sliceT P t = some (e, sz, by_)) (hsm : m * sz ≤ 2 ^ 24) (hpos : 0 < m)
    (hz : zeroT P e = some z) (hq : partsE sz parts.toList = some qs) (hs : SR n Lc m0 m1 s a) (hl : fillV s ((List.replicate m z).flatten) qs = some l) (hall : l.all V.leaf = true) :
    Made P o a w n Lc m0 m1 (fun p => .osl p 0 m) (some (.cells l e sz)) := by
  obtain ⟨ti, hu, hti, rfl, rfl, hp1, _⟩ := sliceT_ok ht
  obtain ⟨i, zv, h1, h2, h3, h4, h5, h6, h7⟩ := zero_rel (n := n) (Lc := Lc) (m0 := m0) (m1 := m1) hz
  rw [hti] at h1; cases h1
  have hmr := made_rel h5 h7 m (by omega)
  rw [h3] at hmr
  obtain ⟨arr', g1, g2⟩ := fill_ok hs (partsE_ok hq) hmr hl
  rw [← parts_map] at g1
  have hr := run_buildSlice (P := P) w t e m (parts.map fun (i, x) => (i, a.eval x)) arr' ti zv hu hti h2 (by omega) (Nat.pos_iff_ne_zero.1 (Nat.mul_pos hpos hp1)) (by rw [h3]; exact g1)
  have hsz : l.length = m * ti.size := by
    have : ∀ (qs : List (Nat × Nat × Opd)) (l l' : List V), fillV s l qs = some l' → l'.length = l.length := by
      intro qs
      induction qs with
      | nil => intro l l' h; cases h; rfl
      | cons q qs ih =>
        obtain ⟨off, sz, x⟩ := q
        intro l l' h
        simp only [fillV] at h
        split at h
        · rename_i hb
          rw [ih _ _ h]; simp; omega
        · cases h
    rw [this _ _ _ hl]; simp [h4]
  have hcap : m ≤ maxLen := by
    have : m ≤ m * ti.size := Nat.le_mul_of_pos_right _ hp1
    simp only [maxLen]; omega
  exact .row w l e ti.size m m arr' (.inl rfl) (by simp only [execOp, hop, Sem.run_bind, hr, Result.andThen_ok, Sem.run_pure]) hp1 (by rw [← g2.1]; exact hsz) hcap (Nat.le_refl _) (by rw [g2.1]; exact Nat.le_refl _) (cells_rel g2.2 hall)

theorem made_mk {t e : TypeId} {sz by_ : Nat} {x y : Operand} {x' y' : Opd} {z : List V} {p q : Int} (hop : o.op = .makeSlice t x y) (ht : sliceT P t = some (e, sz, by_)) (hz : zeroT P e = some z)
    (hs : SR n Lc m0 m1 s a) (hx : opd x = some x') (hy : opd y = some y') (ex : x'.ev s = .lit (.int .i64 p)) (ey : y'.ev s = .lit (.int .i64 q)) (hb : 0 ≤ p ∧ p ≤ q ∧ q * by_ ≤ 140737488355328) :
    Made P o a w n Lc m0 m1 (fun h => .osl h 0 p.toNat) (some (.cells ((List.replicate q.toNat z).flatten) e sz)) := by
  obtain ⟨ti, hu, hti, rfl, rfl, hp1, hp2⟩ := sliceT_ok ht
  obtain ⟨i, zv, h1, h2, h3, h4, h5, h6, h7⟩ := zero_rel (n := n) (Lc := Lc) (m0 := m0) (m1 := m1) hz
  rw [hti] at h1; cases h1
  have hxv := opd_ok hs hx
  have hyv := opd_ok hs hy
  rw [ex] at hxv
  rw [ey] at hyv
  have hxv := hxv.lit_inv
  have hyv := hyv.lit_inv
  obtain ⟨b1, b2, b3⟩ := hb
  have hq : q ≤ 140737488355328 := by
    have : q * 1 ≤ q * ti.bytes := Int.mul_le_mul_of_nonneg_left (by omega) (by omega)
    omega
  have hr := run_make (P := P) w t e ti zv hu hti h2 .i64 .i64 p q b1 b2 (by rw [Int.mul_comm]; omega) (by omega)
  have hmr := made_rel h5 h7 q.toNat (by omega)
  rw [h3] at hmr
  have hme : madeCells zv.cells (q.toNat * ti.size) = (Array.range (q.toNat * ti.size)).map (zv.cells[· % ti.size]!) := by simp only [madeCells, h3]
  refine .row w _ e ti.size q.toNat p.toNat (madeCells zv.cells (q.toNat * ti.size)) (.inl rfl) (by simp only [execOp, hop, hxv, hyv, Sem.run_bind, hr, Result.andThen_ok, Sem.run_pure]) hp1 (by rw [size_madeCells]) (by simp only [maxLen]; omega) (by omega) (by rw [hme, hmr.1]; exact Nat.le_refl _) (cells_rel (fun j hj hj' => ?_) (rep_leaf h6 _))
  have := hmr.2 j hj (by rw [← hmr.1]; exact hj)
  simp only [hme]
  exact this

theorem made_appn {t e : TypeId} {sz by_ : Nat} {x y : Operand} {y' : Opd} {c : Call} (hop : o.op = .call c) (hcal : c.callee = .builtin .append) (hargs : c.args.toList = [x, y]) (hts : c.argTypes.toList = [t, t]) (ht : sliceT P t = some (e, sz, by_)) {z : List V} (hz : zeroT P e = some z)
    (hm : MemR n Lc m0 m1 H w) (hs : SR n Lc m0 m1 s a) (hx : opd x = some (.c .nils)) (hy : opd y = some y') {f : Nat → V} {ob : Option O} (he : evN (.appn e sz by_ y') s H = some (f, ob)) : Made P o a w n Lc m0 m1 f ob := by
  obtain ⟨ti, hu, hti, rfl, rfl, hp1, hp2⟩ := sliceT_ok ht
  obtain ⟨i, zv, g1, g2, g3, g4, g5, g6, g7⟩ := zero_rel (n := n) (Lc := Lc) (m0 := m0) (m1 := m1) hz
  rw [hti] at g1; cases g1
  have hxp : a.eval x = .slice none 0 0 := (opd_ok hs hx).lit_inv
  have hyv := opd_ok hs hy
  obtain ⟨cs, hcs⟩ := run_call (P := P) (w := w) (a := a) hop hcal
  rw [args2 hargs, types2 hts] at hcs
  have fin : ∀ {r : Value} {w' : World}, (Builtin.append_ #[t, t] o.type #[a.eval x, a.eval y]).run P w = .ok r w' → (execOp a.eval o).run P w = .ok (.value r) w' := fun h => by
    rw [hcs]; simp only [builtin, Sem.run_bind, h, Result.andThen_ok, Sem.run_pure]
  simp only [evN] at he
  split at he
  rotate_left
  · cases he
  rename_i ys m hsl
  obtain ⟨A, cp, B, O', xs, hyp, hmc, h1, h2, h3, h4, h5, h6⟩ := sliceV_ok hm hsl hyv
  split at he
  · rename_i hm0
    subst hm0
    cases he
    refine .non (.slice none 0 0) _ (fin ?_) .lit_
    rw [hxp, hyp]
    exact run_append_zero hu hti none 0 0 (Nat.le_refl _) A cp w
  · split at he <;> cases he
    rename_i hm0 hb
    obtain ⟨hby, hall⟩ := hb
    have hne : ys ≠ [] := fun e => by
      subst e
      have h0 : m * ti.size = 0 := by simpa using h1.symm
      have := Nat.mul_pos (Nat.pos_of_ne_zero hm0) hp1
      omega
    have hA := h3 hne
    subst hA
    have hmle : m ≤ 140737488355328 := Nat.le_trans (Nat.le_mul_of_pos_right _ hp2) hby
    have hnews : ∀ j u, xs[j]? = some u → w.cell? ((⟨B, O', none⟩ : Addr).add j) = some u := fun j u hu => by rw [Addr.add_lit]; exact h4 j u hu
    have hg := grownCap_ge w m 0 e
    have hgm := grownCap_le_maxLen w m 0 e (by simp only [maxLen]; omega)
    have hr : (Builtin.append_ #[t, t] o.type #[a.eval x, a.eval y]).run P w = .ok (.slice (some ⟨w.heap.size, 0, none⟩) m (grownCap w m 0 e)) (w.drew.alloc (.cells (xs.toArray ++ Builtin.zeroCells zv.cells (grownCap w m 0 e - m)) e)) := by
      rw [hxp, hyp]
      exact run_append_nil (P := P) w t o.type e ti zv hu hti g2 ⟨B, O', none⟩ m cp xs (by rw [h2, h1]) hnews (by omega) (by omega) (by omega)
    obtain ⟨q1, q2⟩ := grown_rel (z := zv.cells) (k := grownCap w m 0 e - m) (sz := ti.size) h2.symm h6 h5
    exact .row w.drew ys e ti.size (grownCap w m 0 e) m _ (.inr rfl) (fin hr) hp1 (by simp only [Array.size_append, List.size_toArray, size_zeroCells, h2, h1, g3, ← Nat.add_mul]; congr 1; omega) hgm hg q1 q2

theorem made_ok {al : Alc} {f : Nat → V} {ob : Option O} (hi : insC P o.op = some i) (ha : toAlc i = some al) (hm : MemR n Lc m0 m1 H w) (hs : SR n Lc m0 m1 s a) (he : evN al s H = some (f, ob)) : Made P o a w n Lc m0 m1 f ob := by
  cases hop : o.op <;> rw [hop] at hi
  case alloc e =>
    simp only [insC, Option.bind_eq_bind, Option.bind_eq_some_iff, Option.some.injEq] at hi
    obtain ⟨z, hz, rfl⟩ := hi
    cases ha; cases he
    exact made_alloc hop hz
  case buildSlice t k parts =>
    simp only [insC, Option.bind_eq_bind, Option.bind_eq_some_iff] at hi
    obtain ⟨⟨e, sz, by_⟩, ht, hi⟩ := hi
    simp only at hi
    split at hi
    · cases hi; cases ha
    split at hi
    · rename_i hb
      simp only [Option.bind_eq_some_iff, Option.some.injEq] at hi
      obtain ⟨z, hz, q, hq, rfl⟩ := hi
      cases ha
      simp only [evN] at he
      split at he
      · rename_i l hl
        split at he <;> cases he
        rename_i hall
        exact made_bsl hop ht hb.1 hb.2 hz hq hs hl hall
      · cases he
    · cases hi
  case makeSlice t x y =>
    simp only [insC, Option.bind_eq_bind, Option.bind_eq_some_iff, Option.some.injEq] at hi
    obtain ⟨⟨e, sz, by_⟩, ht, z, hz, x', hx, y', hy, rfl⟩ := hi
    cases ha
    simp only [evN] at he
    split at he <;> try cases he
    rename_i p q ex ey
    split at he <;> cases he
    rename_i hb
    exact made_mk hop ht hz hs hx hy ex ey hb
  case call c =>
    simp only [insC] at hi
    split at hi
    · split at hi
      · split at hi
        · simp only [Option.bind_eq_bind, Option.bind_eq_some_iff, Option.some.injEq] at hi
          obtain ⟨_, _, rfl⟩ := hi; cases ha
        · simp only [Option.bind_eq_bind, Option.bind_eq_some_iff, Option.some.injEq] at hi
          obtain ⟨_, _, rfl⟩ := hi; cases ha
        · cases hi
      · cases hi
    · split at hi
      · split at hi
        · simp only [Option.bind_eq_bind, Option.bind_eq_some_iff, Option.some.injEq] at hi
          obtain ⟨_, _, rfl⟩ := hi; cases ha
        · cases hi
      · cases hi
    · rename_i hcal
      split at hi
      · rename_i x y t t' hargs hts
        split at hi
        · rename_i htt
          subst htt
          simp only [Option.bind_eq_bind, Option.bind_eq_some_iff, Option.some.injEq] at hi
          obtain ⟨⟨e, sz, by_⟩, ht, z, hz, x', hx, y', hy, rfl⟩ := hi
          have hxx : x' = .c .nils ∧ al = .appn e sz by_ y' := by
            unfold toAlc at ha
            split at ha <;> rename_i heq <;> first | (cases ha; cases heq; done) | skip
            · cases ha; cases heq; exact ⟨rfl, rfl⟩
            · cases ha
          obtain ⟨rfl, rfl⟩ := hxx
          exact made_appn hop hcal hargs hts ht hz hm hs hx hy he
        · split at hi
          · simp only [Option.bind_eq_bind, Option.bind_eq_some_iff, Option.some.injEq] at hi
            obtain ⟨_, _, _, _, _, _, _, _, rfl⟩ := hi; cases ha
          · cases hi
      · cases hi
    · split at hi
      · simp only [Option.bind_eq_bind, Option.bind_eq_some_iff, Option.some.injEq] at hi
        obtain ⟨_, _, _, _, _, _, rfl⟩ := hi; cases ha
      · cases hi
    · cases hi
  case makeMap t r =>
    cases r with
    | none =>
      simp only [insC] at hi
      split at hi
      · obtain ⟨_, _, rfl⟩ := Option.map_eq_some_iff.1 hi; cases ha
      · cases hi
    | some r => simp [insC] at hi
  case makeFunc fn first caps =>
    simp only [insC] at hi
    split at hi
    · split at hi
      · simp only [Option.bind_eq_bind, Option.bind_eq_some_iff, Option.some.injEq] at hi
        obtain ⟨_, _, rfl⟩ := hi; cases ha
      · cases hi
    · cases hi
  case slice t x lo h mx =>
    simp only [insC, Option.bind_eq_bind, Option.bind_eq_some_iff] at hi
    obtain ⟨_, _, _, _, _, _, _, _, hi⟩ := hi
    split at hi
    · split at hi <;> cases hi
      cases ha
    · simp only [Option.bind_eq_some_iff, Option.some.injEq] at hi
      obtain ⟨_, _, rfl⟩ := hi; cases ha
    · cases hi
  all_goals
    exfalso
    simp only [insC, eqOp, reduceCtorEq] at hi
    repeat' split at hi
    all_goals try simp only [Option.bind_eq_bind, Option.bind_eq_some_iff, Option.map_eq_some_iff, Option.some.injEq, reduceCtorEq, and_false, exists_false] at hi
    all_goals first
      | cases hi; done
      | (subst hi; cases ha; done)
      | (obtain ⟨_, _, rfl⟩ := hi; cases ha; done)
      | (obtain ⟨_, _, _, _, rfl⟩ := hi; cases ha; done)
      | (obtain ⟨_, _, _, _, _, _, rfl⟩ := hi; cases ha; done)
      | (obtain ⟨_, _, _, _, _, _, _, _, rfl⟩ := hi; cases ha; done)
      | (obtain ⟨_, _, _, _, hi⟩ := hi; repeat' split at hi
         all_goals try simp only [Option.bind_eq_bind, Option.bind_eq_some_iff, Option.map_eq_some_iff, Option.some.injEq, reduceCtorEq, and_false, exists_false] at hi
         all_goals first
           | (cases hi; done)
           | (subst hi; cases ha; done)
           | (obtain ⟨_, _, rfl⟩ := hi; cases ha; done)
           | (obtain ⟨_, _, _, _, rfl⟩ := hi; cases ha; done))
      | (obtain ⟨_, _, hi⟩ := hi; repeat' split at hi
         all_goals try simp only [Option.bind_eq_bind, Option.bind_eq_some_iff, Option.map_eq_some_iff, Option.some.injEq, reduceCtorEq, and_false, exists_false] at hi
         all_goals first
           | (cases hi; done)
           | (subst hi; cases ha; done)
           | (obtain ⟨_, _, rfl⟩ := hi; cases ha; done)
           | (obtain ⟨_, _, _, _, rfl⟩ := hi; cases ha; done))
      | (obtain ⟨_, _, _, _, _, _, hi⟩ := hi; split at hi <;> cases hi <;> cases ha; done)
      | (obtain ⟨_, _, _, _, _, _, hi⟩ := hi; split at hi <;> first | (cases hi; done) | (split at hi <;> cases hi <;> cases ha; done) | (cases hi; cases ha; done))
      | skip

theorem insC_fill {op : Op} {p : Nat} {c : Alc} (hi : insC P op = some (.fill p c)) : False := by
  cases op
  case makeMap t r =>
    cases r with
    | none =>
      simp only [insC] at hi
      split at hi
      · obtain ⟨_, _, h⟩ := Option.map_eq_some_iff.1 hi; cases h
      · cases hi
    | some r => simp [insC] at hi
  case makeFunc fn first caps =>
    simp only [insC] at hi
    split at hi
    · split at hi
      · simp only [Option.bind_eq_bind, Option.bind_eq_some_iff, Option.some.injEq] at hi
        obtain ⟨_, _, h⟩ := hi; cases h
      · cases hi
    · cases hi
  case slice t x lo h mx =>
    simp only [insC, Option.bind_eq_bind, Option.bind_eq_some_iff] at hi
    obtain ⟨_, _, _, _, _, _, _, _, hi⟩ := hi
    split at hi
    · split at hi <;> cases hi
    · simp only [Option.bind_eq_some_iff, Option.some.injEq] at hi
      obtain ⟨_, _, h⟩ := hi; cases h
    · cases hi
  all_goals
    simp only [insC, eqOp, reduceCtorEq] at hi
    repeat' split at hi
    all_goals try simp only [Option.bind_eq_bind, Option.bind_eq_some_iff, Option.map_eq_some_iff, Option.some.injEq, reduceCtorEq, and_false, exists_false] at hi
    all_goals try (obtain ⟨_, _, hi⟩ := hi; split at hi; done)
    all_goals first
      | cases hi; done
      | (obtain ⟨_, _, h⟩ := hi; cases h; done)
      | (obtain ⟨_, _, _, _, h⟩ := hi; cases h; done)
      | (obtain ⟨_, _, h⟩ := hi; repeat' split at h
         all_goals try simp only [Option.bind_eq_bind, Option.bind_eq_some_iff, Option.map_eq_some_iff, Option.some.injEq, reduceCtorEq, and_false, exists_false] at h
         all_goals first
           | (cases h; done)
           | (obtain ⟨_, _, h⟩ := h; cases h; done)
           | (obtain ⟨_, _, _, _, h⟩ := h; cases h; done))
      | (obtain ⟨_, _, _, _, h⟩ := hi; repeat' split at h
         all_goals try simp only [Option.bind_eq_bind, Option.bind_eq_some_iff, Option.map_eq_some_iff, Option.some.injEq, reduceCtorEq, and_false, exists_false] at h
         all_goals first
           | (cases h; done)
           | (obtain ⟨_, _, h⟩ := h; cases h; done)
           | (obtain ⟨_, _, _, _, h⟩ := h; cases h; done))
      | (obtain ⟨_, _, _, _, _, _, h⟩ := hi; repeat' split at h
         all_goals first
           | (cases h; done))
      | skip
end
end Go.Proofs.Vm
/-! Soundness: what the abstract machine computes, the loaded program comes to, in every order that a region leaves open. -/
namespace Go.Proofs.Vm
open Go

/-! ### 1. Seen from a start -/
structure Org where
  n : Nat
  L : Nat → Loc
  m0 : Mem
  m1 : Mem
  w : World

def Grow (w : World) (m0 m1 m0' m1' : Mem) : Prop := m0.le m0' ∧ m1.le m1' ∧ (∀ b, m0 b = none → m0' b ≠ none → w.heap.size ≤ b) ∧ (∀ b, m1 b = none → m1' b ≠ none → w.heap.size ≤ b)
theorem Grow.refl (w : World) (m0 m1 : Mem) : Grow w m0 m1 m0 m1 := ⟨fun _ _ h => h, fun _ _ h => h, fun _ h h' => absurd h h', fun _ h h' => absurd h h'⟩
theorem Grow.trans {w w1 : World} {m0 m1 m0' m1' m0'' m1'' : Mem} (hs : w.heap.size ≤ w1.heap.size) (a : Grow w m0 m1 m0' m1') (b : Grow w1 m0' m1' m0'' m1'') : Grow w m0 m1 m0'' m1'' := by
  obtain ⟨a1, a2, a3, a4⟩ := a
  obtain ⟨b1, b2, b3, b4⟩ := b
  refine ⟨fun x o h => b1 x o (a1 x o h), fun x o h => b2 x o (a2 x o h), fun x h h' => ?_, fun x h h' => ?_⟩
  · cases hx : m0' x with
    | none => exact Nat.le_trans hs (b3 x hx h')
    | some o => exact a3 x h (by rw [hx]; simp)
  · cases hx : m1' x with
    | none => exact Nat.le_trans hs (b4 x hx h')
    | some o => exact a4 x h (by rw [hx]; simp)

structure Sim (g : Org) (N : Nat) (s : Nat → V) (H : List O) (a : Act) (w : World) (n : Nat) (Lc : Nat → Loc) (m0 m1 : Mem) : Prop where
  mem : MemR n Lc m0 m1 H w
  sr : SR n Lc m0 m1 s a
  stp : Stp g.n g.L g.w n Lc w
  grow : Grow g.w g.m0 g.m1 m0 m1
  defers : a.defers = []
  size : N ≤ a.tmps.size
def SimE (g : Org) (N : Nat) (s : Nat → V) (H : List O) (a : Act) (w : World) : Prop := ∃ n Lc m0 m1, Sim g N s H a w n Lc m0 m1

def Enter (P : Program) (f : FuncId) : Prop := ∃ fn c, P.funcs[f]? = some fn ∧ fn.body = some c ∧ fn.name ≠ "runtime.NumGoroutine"
def Post (g : Org) (r : V) (H' : List O) : Ending → World → Prop
  | .returned v, w' => ∃ n L m0 m1, MemR n L m0 m1 H' w' ∧ VR n L m0 m1 r v ∧ Stp g.n g.L g.w n L w' ∧ Grow g.w g.m0 g.m1 m0 m1
  | _, _ => False
/-- A call that the abstract machine answers. -/
def CallAt (P : Program) (f : FuncId) (vs : List V) (H : List O) (r : V) (H' : List O) : Prop :=
  Enter P f ∧ ∀ g : Org, MemR g.n g.L g.m0 g.m1 H g.w → ∀ xs, Rel g.n g.L g.m0 g.m1 vs xs → Calls P f xs g.w (Post g r H')
def CallOk (P : Program) (call : Callee) : Prop := ∀ f vs H r H', call f vs H = some (r, H') → CallAt P f vs H r H'

/-! ### 2. One operation -/
section
variable {P : Program} {call : Callee} {ops : Array Oper} {N : Nat} {g : Org} {s : Nat → V} {H : List O} {a : Act} {w : World} {n : Nat} {Lc : Nat → Loc} {m0 m1 : Mem}

theorem SR.mono {n' : Nat} {Lc' : Nat → Loc} {m0' m1' : Mem} (hn : n ≤ n') (hL : ∀ h, Own n Lc h → Lc' h = Lc h) (h0 : m0.le m0') (h1 : m1.le m1') (h : SR n Lc m0 m1 s a) : SR n' Lc' m0' m1' s a := fun t => (h t).mono hn hL h0 h1
theorem undef_ok : VR n Lc m0 m1 .none_ undef := .lit_
theorem SR.put_ {d : Option Nat} {v : V} {x : Value} (hd : dstOk N d = true) (hN : N ≤ a.tmps.size) (h : SR n Lc m0 m1 s a) (hv : VR n Lc m0 m1 v x) : SR n Lc m0 m1 (put s d v) (a.put d x) := by
  cases d with
  | none => exact h
  | some d =>
    have hd : d < N := by simpa [dstOk] using hd
    intro t
    simp only [put, upd, Act.put]
    by_cases e : t = d
    · subst e; simp [show t < a.tmps.size by omega]; exact hv
    · rw [if_neg e]
      have : (a.tmps.setIfInBounds d x).getD t undef = a.tmps.getD t undef := by
        simp [Array.getElem?_setIfInBounds_ne (fun h => e h.symm)]
      rw [this]; exact h t
theorem put_size (d : Option Nat) (x : Value) : (a.put d x).tmps.size = a.tmps.size ∧ (a.put d x).defers = a.defers := by cases d <;> simp [Act.put]

theorem wanted_ok {o : Oper} {gd : Option (Nat × Bool)} (hg : guardC ops o.guard = some gd) (hs : SR n Lc m0 m1 s a) : Region.wanted o (yielded ops a.tmps) = wantB s gd := by
  unfold Region.wanted
  unfold guardC at hg
  cases ho : o.guard with
  | none => rw [ho] at hg; cases hg; rfl
  | some jb =>
    obtain ⟨j, b⟩ := jb
    simp only [ho] at hg ⊢
    split at hg
    · rename_i o' hj
      obtain ⟨d, hd, rfl⟩ := Option.map_eq_some_iff.1 hg
      have hv := hs d
      have hy : yielded ops a.tmps j = match a.tmps[d]? with
        | some (.bool b) => some b
        | _ => none := by
        unfold yielded
        simp only [hj, Option.bind_some, hd]
        cases a.tmps[d]? with
        | none => rfl
        | some x => cases x <;> rfl
      rw [hy]
      simp only [wantB]
      cases ht : a.tmps[d]? with
      | none =>
        have e : a.tmps.getD d undef = undef := by simp [ht]
        rw [e] at hv
        have : ∀ c, s d ≠ .lit (.bool c) := fun c hc => by
          rw [hc] at hv; have := hv.lit_inv; simp [undef] at this
        have e2 : (match s d with
          | .lit (.bool c) => c == b
          | _ => false) = false := by
          split
          · rename_i c hc; exact absurd hc (this c)
          · rfl
        exact e2.symm
      | some x =>
        have e : a.tmps.getD d undef = x := by simp [ht]
        rw [e] at hv
        by_cases hx : ∃ c, x = .bool c
        · obtain ⟨c, rfl⟩ := hx
          have : s d = .lit (.bool c) := by
            cases hsd : s d with
            | lit v => rw [hsd] at hv; rw [← hv.lit_inv]
            | agg l => rw [hsd] at hv; obtain ⟨_, h, _⟩ := hv.agg_inv; cases h
            | tup l => rw [hsd] at hv; obtain ⟨_, h, _⟩ := hv.tup_inv; cases h
            | zsl => rw [hsd] at hv; obtain ⟨_, h⟩ := hv.zsl_inv; cases h
            | osl h o l => rw [hsd] at hv; obtain ⟨_, h, _⟩ := hv.osl_inv; cases h
            | fsl t l k => rw [hsd] at hv; obtain ⟨_, _, _, _, _, h, _⟩ := hv.fsl_inv; cases h
            | optr h o => rw [hsd] at hv; obtain ⟨h, _⟩ := hv.optr_inv; cases h
            | fptr t l k => rw [hsd] at hv; obtain ⟨_, _, _, h, _⟩ := hv.fptr_inv; cases h
            | clo f l => rw [hsd] at hv; obtain ⟨_, h, _⟩ := hv.clo_inv; cases h
            | omap h => rw [hsd] at hv; obtain ⟨h, _⟩ := hv.omap_inv; cases h
          rw [this]
          simp only
          cases c <;> cases b <;> rfl
        · have h1 : ∀ c, s d ≠ .lit (.bool c) := fun c hc => by
            rw [hc] at hv; exact hx ⟨c, hv.lit_inv⟩
          have h2 : (match (some x : Option Value) with
            | some (.bool b) => some b
            | _ => none) = none := by
            split
            · rename_i c hc; cases hc; exact absurd ⟨_, rfl⟩ hx
            · rfl
          have e2 : (match s d with
            | .lit (.bool c) => c == b
            | _ => false) = false := by
            split
            · rename_i c hc; exact absurd hc (h1 c)
            · rfl
          rw [h2]; exact e2.symm
    · cases hg

theorem Post.sim (_h : Sim g N s H a w n Lc m0 m1) : True := trivial

/-- An instruction that may stand for an operation. -/
def Stands (P : Program) (N : Nat) (ops : Array Oper) (o : Oper) (I : In) : Prop :=
  I = inC P N ops o ∨ ∃ p al, toAlc (inC P N ops o).i = some al ∧ I = ⟨(inC P N ops o).d, (inC P N ops o).g, .fill p al⟩

theorem op_ok (hc : CallOk P call) {Q : Exit → Act → World → Prop} {j : Nat} {o : Oper} (hj : ops[j]? = some o) {I : In} (hI : Stands P N ops o I) {st' : St} (he : evO call I (s, H) = some st') (hs : SimE g N s H a w) {K : Act → World → Prop}
    (hK : ∀ a' w', SimE g N st'.1 st'.2 a' w' → K a' w') : wpOp P ops Q j K a w := by
  obtain ⟨n, Lc, m0, m1, hs⟩ := hs
  unfold wpOp
  simp only [hj]
  have hI2 : ∃ i gd, anyC P o.op = some i ∧ guardC ops o.guard = some gd ∧ dstOk N o.dst = true ∧ (I = ⟨o.dst, gd, i⟩ ∨ ∃ p al, toAlc i = some al ∧ I = ⟨o.dst, gd, .fill p al⟩) := by
    unfold Stands inC at hI
    split at hI
    · rename_i i gd hi hg
      split at hI
      · rename_i hd
        exact ⟨i, gd, hi, hg, hd, hI⟩
      · exfalso
        rcases hI with rfl | ⟨p, al, h, rfl⟩
        · simp [evO, wantB, evI] at he
        · cases h
    · exfalso
      rcases hI with rfl | ⟨p, al, h, rfl⟩
      · simp [evO, wantB, evI] at he
      · cases h
  obtain ⟨i, gd, hi, hg, hd, hI⟩ := hI2
  rw [wanted_ok hg hs.sr]
  rw [evO_eq] at he
  obtain ⟨⟨v, H'⟩, hev, rfl⟩ := Option.map_eq_some_iff.1 he
  clear he
  have fin : ∀ {nx : Next} {w' : World} {n' : Nat} {Lc' : Nat → Loc} {d : Option Nat}, (execOp a.eval o).run P w = .ok nx w' → (nx = .skip ∧ v = .none_ ∨ ∃ x, nx = .value x ∧ VR n' Lc' m0 m1 v x) → MemR n' Lc' m0 m1 H' w' → Stp n Lc w n' Lc' w' → d = o.dst →
      (∀ a' w', SimE g N (put s d v) H' a' w' → K a' w') → o.wp P a w K Q := fun {nx w' n' Lc' d} hr hnx hm' hst hdd hK => by
    subst hdd
    unfold Oper.wp
    rw [hr]
    have sim : ∀ x, VR n' Lc' m0 m1 v x → SimE g N (put s o.dst v) H' (a.put o.dst x) w' := fun x hx =>
      ⟨n', Lc', m0, m1, hm', SR.put_ hd hs.size (hs.sr.mono hst.le hst.same (fun _ _ h => h) (fun _ _ h => h)) hx, hs.stp.trans hst, hs.grow, by rw [(put_size _ _).2]; exact hs.defers, by rw [(put_size _ _).1]; exact hs.size⟩
    rcases hnx with ⟨rfl, rfl⟩ | ⟨x, rfl, hx⟩
    · simp only [Oper.upon]; exact hK _ _ (sim _ undef_ok)
    · simp only [Oper.upon]; exact hK _ _ (sim _ hx)
  rcases hI with rfl | ⟨p, al, hal, rfl⟩
  rotate_left
  · unfold evG at hev
    simp only at hev hK
    by_cases hw : wantB s gd = true
    · simp only [hw, if_true] at hev ⊢
      left
      obtain ⟨hp, f, ob, hn, rfl, rfl⟩ := evFill_inv (by simpa [evI] using hev)
      have hins : insC P o.op = some i := by
        unfold anyC at hi
        split at hi
        · rename_i i' hcc
          cases hi
          exfalso
          unfold callC at hcc
          split at hcc
          · split at hcc
            · obtain ⟨_, _, rfl⟩ := Option.map_eq_some_iff.1 hcc; cases hal
            · split at hcc <;> cases hcc; cases hal
            · cases hcc
          · cases hcc
        · split at hi
          · rename_i hq; split at hi <;> cases hi; exact hq
          · cases hi
      obtain ⟨nx, w', n', Lc', hr, hnx, hm', hst⟩ := (made_ok hins hal hs.mem hs.sr hn).fill hs.mem hp
      exact fin hr hnx hm' hst rfl hK
    · simp only [hw, Bool.false_eq_true, if_false] at hev ⊢
      cases hev
      exact hK _ _ ⟨n, Lc, m0, m1, hs.mem, SR.put_ hd hs.size hs.sr undef_ok, hs.stp, hs.grow, by rw [(put_size _ _).2]; exact hs.defers, by rw [(put_size _ _).1]; exact hs.size⟩
  unfold evG at hev
  simp only at hev hK
  -- a call
  have callCase : ∀ {f : FuncId} {vs : List V} {xs : Array Value}, call f vs H = some (v, H') → Rel n Lc m0 m1 vs xs → (execOp a.eval o).run P w = (callFunc f xs).run P w → o.wp P a w K Q := fun {f vs xs} hcl hr hrun => by
    obtain ⟨⟨fn, c, e1, e2, e3⟩, hca⟩ := hc f vs H v H' hcl
    have hcf : (callFunc f xs).run P w = .ok (.enter f xs) w := by
      simp [callFunc, e1, e2, e3]
    unfold Oper.wp
    rw [hrun, hcf]
    simp only [Oper.upon]
    refine Calls.mono (hca ⟨n, Lc, m0, m1, w⟩ hs.mem xs hr) fun e w' hp => ?_
    cases e with
    | returned x =>
      obtain ⟨n', L', m0', m1', q1, q2, q3, q4⟩ := hp
      refine hK _ _ ⟨n', L', m0', m1', q1, ?_, hs.stp.trans q3, hs.grow.trans hs.stp.size q4, by rw [(put_size _ _).2]; exact hs.defers, by rw [(put_size _ _).1]; exact hs.size⟩
      exact SR.put_ hd hs.size (hs.sr.mono q3.le q3.same q4.1 q4.2.1) q2
    | panicked c => exact hp.elim
    | outgrown => exact hp.elim
  by_cases hw : wantB s gd = true
  · simp only [hw, if_true] at hev ⊢
    left
    unfold anyC at hi
    split at hi
    · rename_i i' hcc
      cases hi
      unfold callC at hcc
      split at hcc
      · rename_i c hop
        split at hcc
        · rename_i f hcal
          obtain ⟨args, hargs, rfl⟩ := Option.map_eq_some_iff.1 hcc
          obtain ⟨r1, r2⟩ := opds_ok hs.sr hargs
          refine callCase hev (xs := c.args.map a.eval) ⟨by simpa using r1, fun j hj hj' => by simpa using r2 j (by simpa using hj) (by simpa using hj')⟩ ?_
          simp [execOp, hop, resolve, hcal, Deferred.ofValue, Act.eval, invoke]
        · rename_i x hx hcal
          split at hcc <;> cases hcc
          rename_i x' args hx' hargs
          obtain ⟨r1, r2⟩ := opds_ok hs.sr hargs
          have hxv := opd_ok hs.sr hx'
          simp only at hev
          split at hev
          rotate_left
          · cases hev
          rename_i f caps hxe
          rw [hxe] at hxv
          obtain ⟨arr, hp, hl, hr⟩ := hxv.clo_inv
          refine callCase hev (xs := c.args.map a.eval ++ arr) ⟨by simp [r1, hl], fun j hj hj' => ?_⟩ ?_
          · by_cases h1 : j < args.length
            · rw [List.getElem_append_left (by simpa using h1), Array.getElem_append_left (by simp; omega)]
              simpa using r2 j h1 (by omega)
            · rw [List.getElem_append_right (by simp; omega), Array.getElem_append_right (by simp; omega)]
              simp only [List.length_map, Array.size_map, r1]
              exact hr _ (by simp at hj; omega) _
          · simp [execOp, hop, resolve, hcal, Deferred.ofValue, hp, invoke]
        · cases hcc
      · cases hcc
    · split at hi
      · rename_i i' hi'
        split at hi <;> cases hi
        rename_i hnc
        have he : evI i s H = some (v, H') := by
          cases i <;> first | exact hev | exact absurd rfl hnc
        obtain ⟨nx, w', n', Lc', hr, hnx, hm', hst⟩ := ins_ok hi' hs.mem hs.sr he
        exact fin hr hnx hm' hst rfl hK
      · cases hi
  · simp only [hw, Bool.false_eq_true, if_false] at hev ⊢
    cases hev
    exact hK _ _ ⟨n, Lc, m0, m1, hs.mem, SR.put_ hd hs.size hs.sr undef_ok, hs.stp, hs.grow, by rw [(put_size _ _).2]; exact hs.defers, by rw [(put_size _ _).1]; exact hs.size⟩
end
end Go.Proofs.Vm
/-! Soundness, second part: regions, control, functions. -/
namespace Go.Proofs.Vm
open Go

section
variable {P : Program} {call : Callee} {ops : Array Oper} {N : Nat} {g : Org} {s : Nat → V} {H : List O} {a : Act} {w : World} {n : Nat} {Lc : Nat → Loc} {m0 m1 : Mem} {Q : Exit → Act → World → Prop}

/-! ### 1. A region in the order of the text -/
def insOf (P : Program) (N : Nat) (ops : Array Oper) (j : Nat) : In := (ops.toList.map (inC P N ops)).getD j default
theorem insOf_eq {j : Nat} {o : Oper} (h : ops[j]? = some o) : insOf P N ops j = inC P N ops o := by
  simp [insOf, h]

theorem ops_ok (hc : CallOk P call) : ∀ {l : List Nat} {st st' : St} {a : Act} {w : World}, (∀ j ∈ l, j < ops.size) → evL call (l.map (insOf P N ops)) st = some st' → SimE g N st.1 st.2 a w → (∀ a' w', SimE g N st'.1 st'.2 a' w' → Q .normal a' w') → wpOps P ops Q l a w
  | [], st, st', a, w, _, he, hs, hQ => by cases he; exact hQ _ _ hs
  | j :: l, st, st', a, w, hj, he, hs, hQ => by
    obtain ⟨st1, h1, h2⟩ := evL_cons.1 he
    have hlt := hj j List.mem_cons_self
    have ho : ops[j]? = some ops[j] := Array.getElem?_eq_getElem hlt
    rw [wpOps_cons]
    rw [insOf_eq ho] at h1
    exact op_ok hc ho (.inl rfl) h1 hs fun a' w' h => ops_ok hc (fun k hk => hj k (List.mem_cons_of_mem _ hk)) h2 h hQ

/-! ### 2. Whom an operation waits for -/
def bitsOf (o : Oper) (acc : List Nat) : Nat := o.after.toList.foldl (fun s e => if Region.binds .any e then s ||| 2 ^ e.on ||| acc.getD e.on 0 else s) 0
theorem bits_mem {es : List Edge} {acc : List Nat} {x : Nat} : ∀ {z : Nat}, (es.foldl (fun s e => if Region.binds .any e then s ||| 2 ^ e.on ||| acc.getD e.on 0 else s) z).testBit x = true →
    z.testBit x = true ∨ ∃ e ∈ es, Region.binds .any e = true ∧ (e.on = x ∨ (acc.getD e.on 0).testBit x = true) := by
  induction es with
  | nil => exact fun h => .inl h
  | cons e es ih =>
    intro z h
    rcases ih h with h | ⟨e', he', h⟩
    · dsimp only at h
      split at h
      · rename_i hb
        rw [Nat.testBit_or, Nat.testBit_or, Bool.or_eq_true, Bool.or_eq_true] at h
        rcases h with (h | h) | h
        · exact .inl h
        · exact .inr ⟨e, List.mem_cons_self, hb, .inl (by rw [Nat.testBit_two_pow] at h; simpa using h)⟩
        · exact .inr ⟨e, List.mem_cons_self, hb, .inr h⟩
      · exact .inl h
    · exact .inr ⟨e', List.mem_cons_of_mem _ he', h⟩
theorem waits_go : ∀ (os : List Oper) (acc : List Nat), let R := os.foldl (fun acc o => acc ++ [bitsOf o acc]) acc
    R.length = acc.length + os.length ∧ (∀ i, i < acc.length → R.getD i 0 = acc.getD i 0) ∧ ∀ (j : Nat) (o : Oper), os[j]? = some o → R.getD (acc.length + j) 0 = bitsOf o (R.take (acc.length + j))
  | [], acc => ⟨rfl, fun _ _ => rfl, fun j o h => by simp at h⟩
  | o :: os, acc => by
    obtain ⟨h1, h2, h3⟩ := waits_go os (acc ++ [bitsOf o acc])
    simp only [List.foldl_cons]
    refine ⟨by rw [h1]; simp; omega, fun i hi => ?_, fun j o' hj => ?_⟩
    · rw [h2 i (by simp; omega)]
      simp [List.getD_eq_getElem?_getD, List.getElem?_append_left hi]
    · have htake : ∀ R : List Nat, (∀ i, i < (acc ++ [bitsOf o acc]).length → R.getD i 0 = (acc ++ [bitsOf o acc]).getD i 0) → (acc ++ [bitsOf o acc]).length ≤ R.length → R.take acc.length = acc := fun R hR hle => by
        apply List.ext_getElem
        · simp at hle ⊢; omega
        · intro i hi hi'
          have := hR i (by simp; omega)
          rw [List.getD_eq_getElem?_getD, List.getD_eq_getElem?_getD, List.getElem?_append_left hi', List.getElem?_eq_getElem hi', List.getElem?_eq_getElem (by simp at hle; omega)] at this
          simpa using this
      cases j with
      | zero =>
        simp at hj; subst hj
        rw [Nat.add_zero, h2 _ (by simp), htake _ h2 (by rw [h1]; omega)]
        simp [List.getD_eq_getElem?_getD]
      | succ j =>
        have := h3 j o' (by simpa using hj)
        simp only [List.length_append, List.length_singleton] at this
        rw [show acc.length + (j + 1) = acc.length + 1 + j by omega]
        exact this
theorem waits_spec {os : List Oper} {j x : Nat} {o : Oper} (hj : os[j]? = some o) (h : ((waits os).getD j 0).testBit x = true) : ∃ e ∈ o.after, Region.binds .any e = true ∧ (e.on = x ∨ ((waits os).getD e.on 0).testBit x = true) := by
  have hw : waits os = os.foldl (fun acc o => acc ++ [bitsOf o acc]) [] := rfl
  obtain ⟨h1, _, h3⟩ := waits_go os []
  rw [← hw] at h1 h3
  have h4 := h3 j o hj
  simp only [List.length_nil, Nat.zero_add] at h4
  rw [h4] at h
  rcases bits_mem h with h | ⟨e, he, hb, hor⟩
  · simp at h
  · refine ⟨e, by simpa using he, hb, hor.imp_right fun h => ?_⟩
    rw [List.getD_eq_getElem?_getD] at h ⊢
    rw [List.getElem?_take] at h
    split at h
    · exact h
    · simp at h

/-! ### 3. Kept numbers -/
theorem shift_d (b : Nat) (x : In) : (x.shift b).d = x.d ∧ (x.shift b).g = x.g := by
  obtain ⟨d, g, i⟩ := x
  cases i <;> exact ⟨rfl, rfl⟩
theorem shift_slots (b : Nat) (x : In) : (x.shift b).slots = x.slots := by
  obtain ⟨d, g, i⟩ := x
  cases i <;> rfl
theorem shift_kind (b : Nat) (pure : FuncId → Bool) (x : In) : (x.shift b).i.kind pure = x.i.kind pure := by
  obtain ⟨d, g, i⟩ := x
  cases i <;> rfl
theorem shift_ldOf (b : Nat) (x : In) : (x.shift b).i.ldOf = x.i.ldOf := by
  obtain ⟨d, g, i⟩ := x
  cases i <;> rfl
theorem shift_looks (b : Nat) (x : In) : (x.shift b).i.looks = x.i.looks := by
  obtain ⟨d, g, i⟩ := x
  cases i <;> rfl
theorem shift_other (b : Nat) {x : In} (h : ∀ p a, x.i ≠ .fill p a) : x.shift b = x := by
  obtain ⟨d, g, i⟩ := x
  cases i <;> first | rfl | exact absurd rfl (h _ _)
theorem shift_swap (b : Nat) (x y : In) : swapF (x.shift b).i (y.shift b).i = swapF x.i y.i := by
  by_cases hx : ∃ p a, x.i = .fill p a
  · obtain ⟨p, a, hx⟩ := hx
    by_cases hy : ∃ q c, y.i = .fill q c
    · obtain ⟨q, c, hy⟩ := hy
      obtain ⟨d, g, i⟩ := x
      obtain ⟨d', g', i'⟩ := y
      simp only at hx hy
      subst hx; subst hy
      simp only [In.shift, swapF]
      congr 1
      rw [Bool.eq_iff_iff]; simp
    · rw [shift_other b fun q c e => hy ⟨q, c, e⟩]
      obtain ⟨d, g, i⟩ := x
      simp only at hx; subst hx
      obtain ⟨d', g', i'⟩ := y
      cases i' <;> first | rfl | exact absurd ⟨_, _, rfl⟩ hy
  · rw [shift_other b fun q c e => hx ⟨q, c, e⟩]
    obtain ⟨d, g, i⟩ := x
    cases i <;> first | rfl | exact absurd ⟨_, _, rfl⟩ hx
theorem shift_with (b : Nat) (ks : List Nat) (y : In) : withLooks ks (y.shift b) = (withLooks ks y).shift b := by
  by_cases hl : y.i.looks = false
  · rw [withLooks_same _ hl, withLooks_same _ (by rw [shift_looks]; exact hl)]
  · have h1 : ∀ p a, y.i ≠ .fill p a := fun p a e => by rw [e] at hl; exact hl rfl
    rw [shift_other b h1, shift_other b fun p a e => ?_]
    obtain ⟨d, g, i⟩ := y
    cases ks with
    | nil => exact h1 p a e
    | cons k ks => cases i <;> first | cases e; done | exact absurd rfl hl
theorem shift_post (b : Nat) (pure : FuncId → Bool) (x y : In) (ks : List Nat) : postL pure (x.shift b) (y.shift b) ks = postL pure x y ks := by
  unfold postL
  rw [shift_kind, shift_with, shift_kind, shift_swap, shift_ldOf, shift_looks, (shift_d b x).1, (shift_d b x).2, (shift_d b y).1, (shift_d b y).2, shift_slots, shift_slots]

/-! ### 4. A region whose order is drawn -/
def Down (ops : Array Oper) (listed : Array Bool) : Prop := ∀ (k : Nat) (o : Oper), ops[k]? = some o → listed.getD k false = true → ∀ e ∈ o.after, Region.binds .any e = true → listed.getD e.on false = true
theorem down_closed {listed : Array Bool} (hb : backOk ops.toList = true) (hd : Down ops listed) : ∀ (j : Nat) (o : Oper), ops[j]? = some o → (∀ e ∈ o.after, Region.binds .any e = true → listed.getD e.on false = true) → ∀ x, ((waits ops.toList).getD j 0).testBit x = true → listed.getD x false = true := by
  intro j
  induction j using Nat.strongRecOn with
  | _ j ih =>
    intro o ho hall x hx
    obtain ⟨e, he, hbe, hor⟩ := waits_spec (by simpa using ho) hx
    have hlt : e.on < j := by
      unfold backOk at hb
      rw [List.all_eq_true] at hb
      have := hb (o, j) (by
        rw [List.mem_iff_getElem]
        obtain ⟨h1, h2⟩ := Array.getElem?_eq_some_iff.1 ho
        exact ⟨j, by simpa using h1, by simp [List.getElem_zipIdx, h2]⟩)
      rw [List.all_eq_true] at this
      have := this e (by simpa using he)
      simpa [hbe] using this
    have hl := hall e he hbe
    rcases hor with rfl | h
    · exact hl
    · have hs : e.on < ops.size := by
        have := (Array.getElem?_eq_some_iff.1 ho).1; omega
      have heo : ops[e.on]? = some ops[e.on] := Array.getElem?_eq_getElem hs
      exact ih e.on hlt _ heo (hd _ _ heo hl) x h

theorem pairs_spec {pure : FuncId → Bool} {ins : List In} {looks : List (List Nat)} {all bits : List Nat} : ∀ {l : List Nat}, pairsOk pure ins looks all bits l = true → l.Pairwise fun x y => ((bits.getD y 0).testBit x = true ∨ postL pure (ins.getD x default) (ins.getD y default) (looks.getD y []) = true) ∧ ∀ k, (ins.getD x default).i.ldOf = some k → k ∈ all → (ins.getD y default).d ≠ some k
  | [], _ => .nil
  | x :: l, h => by
    unfold pairsOk at h
    simp only [Bool.and_eq_true, List.all_eq_true, Bool.or_eq_true] at h
    refine .cons (fun y hy => ⟨(h.1 y hy).1, fun k hk hka e => ?_⟩) (pairs_spec h.2)
    have := (h.1 y hy).2
    rw [hk] at this
    simp [hka] at this
    exact this (by rw [← List.getD_eq_getElem?_getD]; exact e)
theorem mem_flat {L : List (List Nat)} {j k : Nat} (h : k ∈ L.getD j []) : k ∈ L.flatten := by
  rw [List.getD_eq_getElem?_getD] at h
  cases hL : L[j]? with
  | none => rw [hL] at h; simp at h
  | some l => rw [hL] at h; exact List.mem_flatten.2 ⟨l, List.mem_of_getElem? hL, h⟩

theorem exists_min : ∀ {l : List Nat}, l ≠ [] → ∃ m ∈ l, ∀ x ∈ l, m ≤ x
  | [], h => absurd rfl h
  | [x], _ => ⟨x, List.mem_singleton.2 rfl, fun y hy => by rw [List.mem_singleton.1 hy]; exact Nat.le_refl _⟩
  | x :: y :: l, _ => by
    obtain ⟨m, hm, hle⟩ := exists_min (l := y :: l) (by simp)
    by_cases h : x ≤ m
    · exact ⟨x, List.mem_cons_self, fun z hz => by
        rcases List.mem_cons.1 hz with rfl | hz
        · exact Nat.le_refl _
        · exact Nat.le_trans h (hle z hz)⟩
    · exact ⟨m, List.mem_cons_of_mem _ hm, fun z hz => by
        rcases List.mem_cons.1 hz with rfl | hz
        · omega
        · exact hle z hz⟩

theorem any_ok (hc : CallOk P call) {pure : FuncId → Bool} (hp : Reads call pure) {I : Nat → In} (hI : ∀ j o, ops[j]? = some o → Stands P N ops o (I j)) (hb : backOk ops.toList = true) {looks : Nat → List Nat} {all : List Nat} (hall : ∀ j, j < ops.size → ∀ k ∈ looks j, k ∈ all) {st' : St} (hQ : ∀ a' w', SimE g N st'.1 st'.2 a' w' → Q .normal a' w') :
    ∀ (k : Nat) (l : List Nat) (listed : Array Bool) (st : St) (a : Act) (w : World), l.length = k → listed.size = ops.size → (∀ j ∈ l, j < ops.size) → l.Nodup → (∀ j, j < ops.size → (listed.getD j true = false ↔ j ∈ l)) → Down ops listed →
      (l.Pairwise fun x y => (((waits ops.toList).getD y 0).testBit x = true ∨ postL pure (I x) (I y) (looks y) = true) ∧ ∀ k, (I x).i.ldOf = some k → k ∈ all → (I y).d ≠ some k) →
      evL call (l.map fun j => withLooks (looks j) (I j)) st = some st' → SimE g N st.1 st.2 a w → wpAny P .any ops Q k listed a w := by
  intro k
  induction k with
  | zero =>
    intro l listed st a w hk hsz hlt hnd hmem hdn hpw he hs
    have : l = [] := List.eq_nil_of_length_eq_zero hk
    subst this
    cases he
    refine ⟨List.eq_nil_iff_forall_not_mem.2 fun j hj => ?_, hQ _ _ hs⟩
    obtain ⟨h0, o, ho, _⟩ := mem_ready.1 hj
    have := (hmem j (Array.getElem?_eq_some_iff.1 ho).1).1 h0
    simp at this
  | succ k ih =>
    intro l listed st a w hk hsz hlt hnd hmem hdn hpw he hs
    have getD_same : ∀ j, j < ops.size → listed.getD j true = listed.getD j false := fun j hj => by
      simp [show j < listed.size by omega]
    refine ⟨fun hr => ?_, fun i hi => ?_⟩
    · exfalso
      obtain ⟨m, hm, hmin⟩ := exists_min (l := l) (fun e => by rw [e] at hk; simp at hk)
      have hml := hlt m hm
      have ho : ops[m]? = some ops[m] := Array.getElem?_eq_getElem hml
      have : m ∈ Region.ready .any ops listed := mem_ready.2 ⟨(hmem m hml).2 hm, _, ho, fun e he' hbe => by
        have hon : e.on < m := by
          unfold backOk at hb
          rw [List.all_eq_true] at hb
          have := hb (ops[m], m) (by
            rw [List.mem_iff_getElem]
            exact ⟨m, by simpa using hml, by simp [List.getElem_zipIdx]⟩)
          rw [List.all_eq_true] at this
          have := this e (by simpa using he')
          simpa [hbe] using this
        have hnl : e.on ∉ l := fun h => by have := hmin _ h; omega
        rw [← getD_same _ (by omega)]
        cases hq : listed.getD e.on true with
        | true => rfl
        | false => exact absurd ((hmem _ (by omega)).1 hq) hnl⟩
      rw [hr] at this
      simp at this
    · obtain ⟨h0, o, ho, hall'⟩ := mem_ready.1 hi
      have hil : i < ops.size := (Array.getElem?_eq_some_iff.1 ho).1
      have him := (hmem i hil).1 h0
      obtain ⟨l1, l2, rfl⟩ := List.append_of_mem him
      have hpost : ∀ x ∈ l1, postL pure (I x) (I i) (looks i) = true := fun x hx => by
        have h1 := ((List.pairwise_append.1 hpw).2.2 x hx i List.mem_cons_self).1
        rcases h1 with h1 | h1
        · exfalso
          have h2 := down_closed hb hdn i o ho hall' x h1
          have hxl := hlt x (List.mem_append_left _ hx)
          have := (hmem x hxl).2 (List.mem_append_left _ hx)
          rw [getD_same x hxl, h2] at this
          cases this
        · exact h1
      have hIl : l1.map (fun j => withLooks (looks j) (I j)) = l1.map I := List.map_congr_left fun x hx => postL_plain (hpost x hx) _
      rw [List.map_append, List.map_cons, hIl] at he
      obtain ⟨st1, h1, h2⟩ := evL_front hp (fun y hy => by
        obtain ⟨x, hx, rfl⟩ := List.mem_map.1 hy
        exact hpost x hx) (by
        rw [List.pairwise_map]
        exact (List.pairwise_append.1 hpw).1.imp fun h k hk hks => h.2 k hk (hall i hil k hks)) he
      rw [← hIl, ← List.map_append] at h2
      have h1 := looks_none h1
      have hnd' : (l1 ++ l2).Nodup ∧ i ∉ l1 ++ l2 := by
        have h3 := List.nodup_append.1 hnd
        have h4 := List.nodup_cons.1 h3.2.1
        refine ⟨List.nodup_append.2 ⟨h3.1, h4.2, fun x hx y hy => h3.2.2 x hx y (List.mem_cons_of_mem _ hy)⟩, fun h => ?_⟩
        rcases List.mem_append.1 h with h | h
        · exact h3.2.2 i h i List.mem_cons_self rfl
        · exact h4.1 h
      refine op_ok hc ho (hI _ _ ho) h1 hs fun a' w' hs' => ih (l1 ++ l2) (listed.setIfInBounds i true) st1 a' w' ?_ (by simp [hsz]) ?_ hnd'.1 ?_ ?_ ?_ h2 hs'
      · simp at hk ⊢; omega
      · exact fun j hj => hlt j (by rcases List.mem_append.1 hj with h | h; exact List.mem_append_left _ h; exact List.mem_append_right _ (List.mem_cons_of_mem _ h))
      · intro j hj
        by_cases e : i = j
        · subst e
          have : (listed.setIfInBounds i true).getD i true = true := by simp [show i < listed.size by omega]
          rw [this]
          exact ⟨fun h => (by cases h), fun h => absurd h hnd'.2⟩
        · rw [getD_set_ne true e, hmem j hj]
          simp only [List.mem_append, List.mem_cons]
          exact ⟨fun h => h.imp_right fun h => h.resolve_left (fun h => e h.symm), fun h => h.imp_right .inr⟩
      · intro k' o' ho' hk' e he' hbe
        by_cases e1 : i = k'
        · subst e1
          rw [ho] at ho'; cases ho'
          exact getD_set_true (hall' e he' hbe)
        · rw [getD_set_ne false e1] at hk'
          exact getD_set_true (hdn k' o' ho' hk' e he' hbe)
      · exact hpw.sublist (List.Sublist.append_left (List.sublist_cons_self _ _) _)

theorem nodup_le : ∀ (n : Nat) (l : List Nat), l.Nodup → (∀ x ∈ l, x < n) → l.length ≤ n
  | 0, l, _, h => by
    cases l with
    | nil => exact Nat.le_refl _
    | cons x l => exact absurd (h x List.mem_cons_self) (Nat.not_lt_zero _)
  | n + 1, l, hn, h => by
    have h1 := nodup_le n (l.erase n) (hn.erase n) fun x hx => by
      have h2 := (hn.mem_erase_iff).1 hx
      have h3 := h x h2.2
      omega
    by_cases hm : n ∈ l
    · rw [List.length_erase_of_mem hm] at h1; omega
    · rw [List.erase_of_not_mem hm] at h1; omega

theorem inC_fill {o : Oper} {p : Nat} {c : Alc} (e : (inC P N ops o).i = .fill p c) : False := by
  unfold inC at e
  split at e
  · rename_i i gd hi hg
    split at e
    · simp only at e
      subst e
      unfold anyC at hi
      split at hi
      · rename_i i' hcc
        cases hi
        unfold callC at hcc
        split at hcc
        · split at hcc
          · obtain ⟨_, _, h⟩ := Option.map_eq_some_iff.1 hcc; cases h
          · split at hcc <;> cases hcc
          · cases hcc
        · cases hcc
      · split at hi
        · rename_i i' hi'
          split at hi <;> cases hi
          exact insC_fill hi'
        · cases hi
    · cases e
  · cases e
theorem order_ok (hm : P.follows .mixedOrders = true) (hc : CallOk P call) {pure : FuncId → Bool} (hp : Reads call pure) {id : Nat} {ins l : List In} (ho : orderC pure ops ins = some l) (b : Nat)
    (hI : ∀ j o, ops[j]? = some o → Stands P N ops o ((ins.getD j default).shift b)) {st st' : St} (he : evL call (l.map (In.shift b)) st = some st') (hs : SimE g N st.1 st.2 a w) (hQ : ∀ a' w', SimE g N st'.1 st'.2 a' w' → Q .normal a' w') : (Code.region id ops true).wp P Q a w := by
  unfold orderC at ho
  simp only at ho
  split at ho <;> cases ho
  rename_i hcond
  simp only [Bool.and_eq_true, decide_eq_true_eq, List.all_eq_true] at hcond
  obtain ⟨⟨⟨⟨c1, c2⟩, c3⟩, c4⟩, c5⟩ := hcond
  obtain ⟨n, Lc, m0, m1, hs⟩ := hs
  have hs' : SimE g N st.1 st.2 a { w with drawn := w.drawn + 1 } := ⟨n, Lc, m0, m1, hs.mem.drew, hs.sr, hs.stp.trans (Stp.drew n Lc w), hs.grow, hs.defers, hs.size⟩
  have key := any_ok hc hp (I := fun j => (ins.getD j default).shift b) hI c1 (looks := fun j => ((List.range ops.size).map (looksOf pure ins (waits ops.toList) (canon ops.toList (ins.map fun i => decide (i.i.kind pure < 2))))).getD j []) (fun j hj k hk => mem_flat hk) hQ ops.size
  refine wp_region_any hm (key (canon ops.toList (ins.map fun i => decide (i.i.kind pure < 2))) _ st a _ c2 (by simp) (fun j hj => c4 j hj) c3 ?_ ?_ ?_ ?_ hs')
  · intro j hj
    have hall : ∀ x, x < ops.size → x ∈ canon ops.toList (ins.map fun i => decide (i.i.kind pure < 2)) := by
      intro x hx
      -- as many different numbers below the size as there are
      exact Classical.byContradiction fun hnot => by
        have hlt := nodup_le ops.size (x :: canon ops.toList (ins.map fun i => decide (i.i.kind pure < 2))) (List.nodup_cons.2 ⟨hnot, c3⟩) (fun y hy => by
            rcases List.mem_cons.1 hy with rfl | hy
            · exact hx
            · exact c4 y hy)
        simp only [List.length_cons] at hlt
        omega
    constructor
    · exact fun _ => hall j hj
    · intro _; simp [hj]
  · intro k' o' _ hk'
    exfalso
    rw [Array.getD_eq_getD_getElem?, Array.getElem?_replicate] at hk'
    split at hk' <;> simp at hk'
  · refine (pairs_spec c5).imp fun {x y} h => ⟨h.1.imp_right fun h => ?_, fun k hk hka => ?_⟩
    · rw [shift_post]; exact h
    · rw [shift_ldOf] at hk
      rw [(shift_d _ _).1]; exact h.2 k hk hka
  · rw [List.map_map] at he
    rw [← he]
    congr 1
    exact List.map_congr_left fun j _ => by simp only [Function.comp_apply]; exact shift_with _ _ _

theorem In.shift_zero (x : In) : x.shift 0 = x := by
  obtain ⟨d, g, i⟩ := x
  cases i <;> simp [In.shift]

theorem region_ok (hm : P.follows .mixedOrders = true) (hc : CallOk P call) {pure : FuncId → Bool} (hp : Reads call pure) {id : Nat} {draw : Bool} {k : Nat} {st st' : St} {ex : Ex}
    (he : evB call k (regionC P pure N ops draw) st = some (ex, st')) (hs : SimE g N st.1 st.2 a w) (hQ : ∀ a' w', ex = .normal → SimE g N st'.1 st'.2 a' w' → Q .normal a' w') : (Code.region id ops draw).wp P Q a w := by
  cases k with
  | zero => cases he
  | succ k =>
    unfold regionC at he
    cases draw with
    | false =>
      simp only [Bool.false_eq_true, if_false, evB] at he
      obtain ⟨st1, h1, e⟩ := Option.map_eq_some_iff.1 he
      cases e
      refine wp_region (ops_ok hc (l := List.range ops.size) (fun j hj => List.mem_range.1 hj) ?_ hs fun a' w' h => hQ a' w' rfl h)
      have : (List.range ops.size).map (insOf P N ops) = ops.toList.map (inC P N ops) := by
        apply List.ext_getElem
        · simp
        · intro i h1 h2
          simp only [List.getElem_map, List.getElem_range]
          rw [insOf_eq (Array.getElem?_eq_getElem (by simpa using h2))]
          simp
      rw [this]; exact h1
    | true =>
      simp only [if_true] at he
      split at he
      · rename_i l hl
        simp only [evB] at he
        obtain ⟨st1, h1, e⟩ := Option.map_eq_some_iff.1 he
        cases e
        refine order_ok hm hc hp hl 0 (fun j o ho => ?_) (st := st) ?_ hs (fun a' w' h => hQ a' w' rfl h)
        · rw [In.shift_zero]
          exact .inl (insOf_eq ho)
        · rw [show In.shift 0 = fun x => x from funext In.shift_zero, List.map_id']; exact h1
      · split at he
        · rename_i l hl
          simp only [evB] at he
          obtain ⟨st1, h1, e⟩ := Option.map_eq_some_iff.1 he
          cases e
          obtain ⟨n, Lc, m0, m1, hs⟩ := hs
          obtain ⟨L', k1, k2⟩ := hs.mem.keepN ((ops.toList.map (inC P N ops)).countP isAlc)
          refine order_ok hm hc hp hl st.2.length (fun j o ho => ?_) (st := (st.1, st.2 ++ List.replicate _ .hole)) h1
            ⟨_, L', m0, m1, k1, hs.sr.mono k2.le k2.same (fun _ _ e => e) (fun _ _ e => e), hs.stp.trans k2, hs.grow, hs.defers, hs.size⟩ (fun a' w' h => hQ a' w' rfl h)
          have hlt := (Array.getElem?_eq_some_iff.1 ho).1
          have e0 : ((ops.toList.map (inC P N ops)).zipIdx.map (fun (x, j) => withFill (((ops.toList.map (inC P N ops)).take j).countP isAlc) x)).getD j default = withFill (((ops.toList.map (inC P N ops)).take j).countP isAlc) (inC P N ops o) := by
            have h2 : (ops.toList.map (inC P N ops))[j]? = some (inC P N ops o) := by simp [ho]
            simp [List.getD_eq_getElem?_getD, ho]
          rw [e0]
          unfold withFill
          split
          · rename_i al hal
            exact .inr ⟨_, al, hal, rfl⟩
          · rename_i hal
            rw [shift_other _ fun p c e => ?_]
            · exact .inl rfl
            · exact inC_fill e
        · simp [evB, evL, evO, wantB, evI] at he
end
end Go.Proofs.Vm
/-! Soundness, third part: control, functions, the whole program. -/
namespace Go.Proofs.Vm
open Go

section
variable {P : Program} {call : Callee} {N : Nat} {g : Org} {s : Nat → V} {H : List O} {a : Act} {w : World} {n : Nat} {Lc : Nat → Loc} {m0 m1 : Mem} {Q : Exit → Act → World → Prop}

def Ex.to : Ex → Exit
  | .normal => .normal
  | .exit id => .exit id
  | .ret => .ret

/-- A loop of which each round counts down. -/
theorem wp_loop_rounds {c : Code} (J : Nat → Act → World → Prop) (round : ∀ n a w, J n a w → c.wp P (Exit.then (fun a' w' => ∃ m, m < n ∧ J m a' w') Q) a w) {n : Nat} (h₀ : J n a w) : (Code.loop c).wp P Q a w := by
  intro b k cs
  have key : ∀ n a w, J n a w →
      ∃ e a' w', Q e a' w' ∧ Arrives P (lone (b.at a (.code c :: .inLoop c :: k)) cs w) b k cs e a' w' := by
    intro n
    induction n using Nat.strongRecOn with
    | _ n ih =>
      intro a w hI
      obtain ⟨e, a₁, w₁, hq, harr⟩ := round n a w hI b (.inLoop c :: k) cs
      cases e with
      | normal =>
        obtain ⟨m, hlt, hI₁⟩ := hq
        obtain ⟨e₂, a₂, w₂, hq₂, harr₂⟩ := ih m hlt a₁ w₁ hI₁
        exact ⟨e₂, a₂, w₂, hq₂, .of_steps (Steps.trans harr (.one step_inLoop)) harr₂⟩
      | exit id => exact ⟨_, a₁, w₁, hq, .pass (x := .inLoop c) rfl (fun _ _ => .inl (by simp)) harr⟩
      | goto l => exact ⟨_, a₁, w₁, hq, .pass (x := .inLoop c) rfl (fun _ _ => .inl (by simp)) harr⟩
      | ret => exact ⟨_, a₁, w₁, hq, .pass (x := .inLoop c) rfl (fun _ _ => .inl (by simp)) harr⟩
      | panic ch => exact ⟨_, a₁, w₁, hq, .pass (x := .inLoop c) rfl (fun _ _ => .inl (by simp)) harr⟩
      | outgrown => exact ⟨_, a₁, w₁, hq, .pass (x := .inLoop c) rfl (fun _ _ => .inl (by simp)) harr⟩
  obtain ⟨e, a', w', hq, harr⟩ := key _ a w h₀
  exact ⟨e, a', w', hq, .of_steps (.one step_loop) harr⟩

theorem code_ok (hm : P.follows .mixedOrders = true) (hc : CallOk P call) {pure : FuncId → Bool} (hp : Reads call pure) :
    ∀ (k : Nat) (c : Code) {st st' : St} {ex : Ex} {a : Act} {w : World} {Q : Exit → Act → World → Prop}, evB call k (codeC P pure N c) st = some (ex, st') → SimE g N st.1 st.2 a w → (∀ a' w', SimE g N st'.1 st'.2 a' w' → Q ex.to a' w') → c.wp P Q a w := by
  intro k
  induction k using Nat.strongRecOn with
  | _ k ih =>
    intro c st st' ex a w Q he hs hQ
    cases k with
    | zero => cases he
    | succ k =>
      have bad : ∀ {st : St}, evB call (k + 1) (.ops [⟨none, none, .bad⟩]) st = none := fun {st} => by simp [evB, evL, evO, wantB, evI]
      cases c with
      | skip =>
        simp only [codeC, evB] at he
        cases he
        exact wp_skip (hQ _ _ hs)
      | region id ops draw =>
        exact region_ok hm hc hp he hs fun a' w' e h => by subst e; exact hQ _ _ h
      | seq x y =>
        simp only [codeC, evB] at he
        apply wp_seq
        cases h1 : evB call k (codeC P pure N x) st with
        | none => rw [h1] at he; cases he
        | some r =>
          obtain ⟨e1, st1⟩ := r
          rw [h1] at he
          refine ih k (Nat.lt_succ_self k) x h1 hs fun a' w' hs' => ?_
          cases e1 with
          | normal => exact ih k (Nat.lt_succ_self k) y he hs' hQ
          | exit id => simp only at he; cases he; exact hQ _ _ hs'
          | ret => simp only at he; cases he; exact hQ _ _ hs'
      | cond c x y =>
        simp only [codeC] at he
        cases hx : opd c with
        | none => rw [hx] at he; simp only at he; rw [bad] at he; cases he
        | some c' =>
          rw [hx] at he
          simp only [evB] at he
          split at he
          · rename_i t ht
            obtain ⟨n, Lc, m0, m1, hs1⟩ := hs
            have hv := opd_ok hs1.sr hx
            rw [ht] at hv
            refine wp_cond hv.lit_inv ?_
            cases t
            · exact ih k (Nat.lt_succ_self k) y he ⟨n, Lc, m0, m1, hs1⟩ hQ
            · exact ih k (Nat.lt_succ_self k) x he ⟨n, Lc, m0, m1, hs1⟩ hQ
          · cases he
      | block id b =>
        simp only [codeC, evB] at he
        apply wp_block
        cases h1 : evB call k (codeC P pure N b) st with
        | none => rw [h1] at he; cases he
        | some r =>
          obtain ⟨e1, st1⟩ := r
          rw [h1] at he
          refine ih k (Nat.lt_succ_self k) b h1 hs fun a' w' hs' => ?_
          cases e1 with
          | normal => simp only at he; cases he; exact hQ _ _ hs'
          | exit id' =>
            simp only at he
            simp only [Ex.to, Exit.inBlock]
            split at he
            · rename_i e; cases he; rw [if_pos e]; exact hQ _ _ hs'
            · rename_i e; cases he; rw [if_neg e]; exact hQ _ _ hs'
          | ret => simp only at he; cases he; exact hQ _ _ hs'
      | loop b =>
        simp only [codeC] at he
        refine wp_loop_rounds (fun m a w => m ≤ k + 1 ∧ ∃ st1, SimE g N st1.1 st1.2 a w ∧ evB call m (.loop (codeC P pure N b)) st1 = some (ex, st')) ?_ ⟨Nat.le_refl _, st, hs, he⟩
        rintro m a w ⟨hle, st1, hs1, he1⟩
        cases m with
        | zero => cases he1
        | succ m =>
          simp only [evB] at he1
          cases h1 : evB call m (codeC P pure N b) st1 with
          | none => rw [h1] at he1; cases he1
          | some r =>
            obtain ⟨e1, st2⟩ := r
            rw [h1] at he1
            refine ih m (by omega) b h1 hs1 fun a' w' hs' => ?_
            cases e1 with
            | normal => exact ⟨m, Nat.lt_succ_self m, by omega, st2, hs', he1⟩
            | exit id => simp only at he1; cases he1; exact hQ _ _ hs'
            | ret => simp only at he1; cases he1; exact hQ _ _ hs'
      | exit id =>
        simp only [codeC, evB] at he
        cases he
        exact wp_exit (hQ _ _ hs)
      | ret =>
        simp only [codeC, evB] at he
        cases he
        exact wp_ret (hQ _ _ hs)
      | _ => simp only [codeC] at he; rw [bad] at he; cases he

/-! ### Results -/
def resV (tmps : Array Value) : ResultVar → Sem Value
  | .tmp t => pure (tmps.getD t undef)
  | .cell a t => do loadVar t (← asAddr (tmps.getD a undef))
theorem results_eq (fn : Func) (tmps : Array Value) : results fn tmps = (do
    let vs ← fn.results.mapM (resV tmps)
    pure (if h : vs.size = 1 then vs[0] else .tuple vs)) := by
  unfold results
  congr 1
theorem res_ok {r : ResultVar} {r' : Res} {u : V} (hr : resC P r = some r') (hm : MemR n Lc m0 m1 H w) (hs : SR n Lc m0 m1 s a) (he : evR s H r' = some u) :
    ∃ x, (resV a.tmps r).run P w = .ok x w ∧ VR n Lc m0 m1 u x := by
  cases r with
  | tmp t =>
    simp only [resC, Option.some.injEq] at hr
    subst hr
    simp only [evR, Option.some.injEq] at he
    subst he
    exact ⟨_, by simp [resV], hs t⟩
  | cell c t =>
    simp only [resC] at hr
    obtain ⟨sz, hsz, rfl⟩ := Option.map_eq_some_iff.1 hr
    simp only [evR] at he
    split at he
    · rename_i h o ho
      have hv := hs c
      rw [ho] at hv
      obtain ⟨hp, hh⟩ := hv.optr_inv
      obtain ⟨⟨l, t', z⟩, hg, hrd⟩ := Option.bind_eq_some_iff.1 he
      unfold getO at hg
      split at hg
      · rename_i l1 t1 z1 hob
        cases hg
        obtain ⟨x, h1, h2⟩ := loadVar_ok hsz (hm.cells hob) hrd
        rw [Nat.zero_add] at h1
        refine ⟨x, ?_, h2⟩
        simp only [resV, hp]
        simp [asAddr, h1]
      · cases hg
    · cases he
theorem ress_ok (hm : MemR n Lc m0 m1 H w) (hs : SR n Lc m0 m1 s a) : ∀ {rs : List ResultVar} {rs' : List Res} {us : List V}, rs.mapM (resC P) = some rs' → evRs s H rs' = some us →
    ∃ xs : List Value, (rs.mapM (resV a.tmps)).run P w = .ok xs w ∧ us.length = xs.length ∧ ∀ j (h : j < us.length) (h' : j < xs.length), VR n Lc m0 m1 us[j] xs[j]
  | [], rs', us, h, he => by
    simp at h; subst h
    simp [evRs] at he; subst he
    exact ⟨[], by simp, rfl, fun j h => by simp at h⟩
  | r :: rs, rs', us, h, he => by
    simp only [List.mapM_cons, Option.bind_eq_bind, Option.bind_eq_some_iff, Option.pure_def, Option.some.injEq] at h
    obtain ⟨r', hr, rs1, hrs, rfl⟩ := h
    simp only [evRs] at he
    split at he
    · rename_i u us1 h1 h2
      cases he
      obtain ⟨x, q1, q2⟩ := res_ok hr hm hs h1
      obtain ⟨xs, q3, q4, q5⟩ := ress_ok hm hs hrs h2
      refine ⟨x :: xs, ?_, by simp [q4], fun j hj hj' => ?_⟩
      · rw [List.mapM_cons]
        simp only [Sem.run_bind, q1, Result.andThen_ok, q3, Sem.run_pure]
      · cases j with
        | zero => exact q2
        | succ j => exact q5 j (by simpa using hj) (by simpa using hj')
    · cases he

theorem func_ok (hm : P.follows .mixedOrders = true) (hc : CallOk P call) {pure : FuncId → Bool} (hp : Reads call pure)
    {f : FuncId} {fn : Func} {F : Fn} {k : Nat} {vs : List V} {H H' : List O} {r : V} (hf : P.funcs[f]? = some fn) (hF : funcC P pure fn = some F) (he : evF call k F vs H = some (r, H')) : CallAt P f vs H r H' := by
  unfold funcC at hF
  split at hF
  rotate_left
  · cases hF
  rename_i c rs hb hrs
  split at hF <;> cases hF
  rename_i hname
  have hname : fn.name ≠ "runtime.NumGoroutine" := by simpa using hname
  refine ⟨⟨fn, c, hf, hb, hname⟩, fun g hg xs hx => ?_⟩
  have hs : SimE g fn.ntmps (argsAt vs) H { tmps := xs ++ Array.replicate (fn.ntmps - xs.size) undef, defers := [] } g.w := by
    refine ⟨g.n, g.L, g.m0, g.m1, hg, fun t => ?_, Stp.refl _ _ _, Grow.refl _ _ _, rfl, by simp; omega⟩
    simp only [argsAt]
    by_cases ht : t < vs.length
    · have h1 : vs.getD t .none_ = vs[t] := by simp [ht]
      have h2 : (xs ++ Array.replicate (fn.ntmps - xs.size) undef).getD t undef = xs[t]'(by rw [← hx.1]; exact ht) := by
        have : t < xs.size := by rw [← hx.1]; exact ht
        simp only [Array.getD_eq_getD_getElem?]
        rw [Array.getElem?_append_left this, Array.getElem?_eq_getElem this]; rfl
      rw [h1, h2]; exact hx.2 t ht _
    · have h1 : vs.getD t .none_ = .none_ := by simp [List.getElem?_eq_none (by omega : vs.length ≤ t)]
      have h2 : (xs ++ Array.replicate (fn.ntmps - xs.size) undef).getD t undef = undef := by
        simp only [Array.getD_eq_getD_getElem?]
        rw [Array.getElem?_append_right (by rw [← hx.1]; omega), Array.getElem?_replicate]
        split <;> rfl
      rw [h1, h2]; exact undef_ok
  unfold evF at he
  have fin : ∀ (s' : Nat → V) (H1 : List O), (evRs s' H1 rs).map (fun vs => (one vs, H1)) = some (r, H') → ∀ a' w', SimE g fn.ntmps s' H1 a' w' → a'.defers = [] ∧ ∃ v, (results fn a'.tmps).run P w' = .ok v w' ∧ Post g r H' (.returned v) w' := by
    intro s' H1 hr a' w' hs'
    obtain ⟨us, hus, e⟩ := Option.map_eq_some_iff.1 hr
    cases e
    obtain ⟨n, Lc, m0, m1, q⟩ := hs'
    obtain ⟨ys, y1, y2, y3⟩ := ress_ok q.mem q.sr hrs hus
    refine ⟨q.defers, (if h : ys.toArray.size = 1 then ys.toArray[0] else .tuple ys.toArray), ?_, n, Lc, m0, m1, q.mem, ?_, q.stp, q.grow⟩
    · rw [results_eq, Array.mapM_eq_mapM_toList]
      simp [y1]
    · by_cases h1 : ∃ u, us = [u]
      · obtain ⟨u, rfl⟩ := h1
        obtain ⟨y, rfl⟩ : ∃ y, ys = [y] := by
          cases ys with
          | nil => simp at y2
          | cons y ys => cases ys with
            | nil => exact ⟨y, rfl⟩
            | cons _ _ => simp at y2
        simpa [one] using y3 0 (by simp) (by simp)
      · have h2 : ys.length ≠ 1 := fun h => h1 (by
          cases us with
          | nil => simp at y2; omega
          | cons u us => cases us with
            | nil => exact ⟨u, rfl⟩
            | cons _ _ => simp at y2; omega)
        have h3 : one us = .tup us := by
          unfold one
          split
          · exact absurd ⟨_, rfl⟩ h1
          · rfl
        rw [h3, dif_neg (by simpa using h2)]
        exact .tup _ _ (by simpa using y2) fun j hj hj' => by simpa using y3 j hj (by simpa using hj')
  refine calls_of_wp hf hb ?_
  split at he
  · rename_i s' H1 hev
    exact code_ok hm hc hp k c hev hs fun a' w' h => fin s' H1 he a' w' h
  · rename_i s' H1 hev
    exact code_ok hm hc hp k c hev hs fun a' w' h => fin s' H1 he a' w' h
  · cases he

/-! ### Calls that only read -/
theorem mapM_spec {α β : Type} {f : α → Option β} : ∀ {l : List α} {l' : List β}, l.mapM f = some l' → l'.length = l.length ∧ ∀ j (h : j < l.length) (h' : j < l'.length), f l[j] = some l'[j]
  | [], l', h => by simp at h; subst h; exact ⟨rfl, fun j h => by simp at h⟩
  | x :: l, l', h => by
    simp only [List.mapM_cons, Option.bind_eq_bind, Option.bind_eq_some_iff, Option.pure_def, Option.some.injEq] at h
    obtain ⟨y, hy, l1, hl, rfl⟩ := h
    obtain ⟨h1, h2⟩ := mapM_spec hl
    refine ⟨by simp [h1], fun j hj hj' => ?_⟩
    cases j with
    | zero => exact hy
    | succ j => exact h2 j (by simpa using hj) (by simpa using hj')

theorem mapM_mono {α β : Type} {f g : α → Option β} (h : ∀ x y, f x = some y → g x = some y) : ∀ {l : List α} {l' : List β}, l.mapM f = some l' → l.mapM g = some l'
  | [], l', e => by simpa using e
  | x :: l, l', e => by
    simp only [List.mapM_cons, Option.bind_eq_bind, Option.bind_eq_some_iff, Option.pure_def, Option.some.injEq] at e ⊢
    obtain ⟨y, hy, l1, hl, rfl⟩ := e
    exact ⟨y, h x y hy, l1, mapM_mono h hl, rfl⟩
theorem Keeps.frz {H H2 : List O} (hk : Keeps H H2) : ∀ (k : Nat) {v v' : V}, Vm.frz H k v = some v' → Vm.frz H2 k v = some v'
  | 0, v, v', h => by cases h
  | k + 1, v, v', h => by
    cases v <;> simp only [Vm.frz] at h ⊢
    case lit | zsl | fsl | fptr => exact h
    case agg l | tup l =>
      obtain ⟨l', hl, e⟩ := Option.map_eq_some_iff.1 h
      rw [mapM_mono (fun v v' => hk.frz k) hl]; exact e ▸ rfl
    case osl b off len =>
      split at h
      · rename_i l t z hg
        rw [hk.getO hg]
        split at h
        · rename_i hb
          simp only [if_pos hb]
          obtain ⟨l', hl, e⟩ := Option.map_eq_some_iff.1 h
          rw [mapM_mono (fun v v' => hk.frz k) hl]; exact e ▸ rfl
        · cases h
      · cases h
    case optr b off =>
      split at h
      · rename_i l t z hg
        rw [hk.getO hg]
        obtain ⟨l', hl, e⟩ := Option.map_eq_some_iff.1 h
        simp only
        rw [mapM_mono (fun v v' => hk.frz k) hl]; exact e ▸ rfl
      · cases h
    all_goals cases h

def Mem.all (w : World) : Mem := fun b => w.heap[b]?

theorem rdC_all {w : World} {b o : Nat} {arr : Array Value} {t : TypeId} {ax : Nat × Nat} (h : w.heap[b]? = some (.cells arr t ax)) (ho : o < arr.size) : rdC (Mem.all w) b o = some arr[o] := by
  simp [rdC, Mem.all, h, ho]

theorem frz_ok (hm : MemR n Lc m0 m1 H w) : ∀ (k : Nat) {v v' : V} {x : Value}, VR n Lc m0 m1 v x → frz H k v = some v' → FR m0 (Mem.all w) true v' x := by
  have hle : m1.le (Mem.all w) := hm.frn
  intro k
  induction k with
  | zero => intro v v' x _ h; cases h
  | succ k ih =>
    intro v v' x hv h
    cases v with
    | lit u => simp only [frz] at h; cases h; rw [hv.lit_inv]; exact .lit _ _
    | zsl => simp only [frz] at h; cases h; obtain ⟨A, rfl⟩ := hv.zsl_inv; exact .zsl _ _
    | fsl t l len =>
      simp only [frz] at h; cases h
      cases hv with
      | fr h => exact h.mono (fun _ _ e => e) hle
    | fptr t l o =>
      simp only [frz] at h; cases h
      cases hv with
      | fr h => exact h.mono (fun _ _ e => e) hle
    | agg l =>
      simp only [frz] at h
      obtain ⟨l', hl, rfl⟩ := Option.map_eq_some_iff.1 h
      obtain ⟨q1, q2⟩ := mapM_spec hl
      obtain ⟨arr, rfl, a1, a2⟩ := hv.agg_inv
      exact .agg _ _ _ (by omega) fun j hj hj' => ih (a2 j (by omega) hj') (q2 j (by omega) hj)
    | tup l =>
      simp only [frz] at h
      obtain ⟨l', hl, rfl⟩ := Option.map_eq_some_iff.1 h
      obtain ⟨q1, q2⟩ := mapM_spec hl
      obtain ⟨arr, rfl, a1, a2⟩ := hv.tup_inv
      exact .tup _ _ _ (by omega) fun j hj hj' => ih (a2 j (by omega) hj') (q2 j (by omega) hj)
    | osl b off len =>
      simp only [frz] at h
      split at h
      · rename_i l t z hg
        split at h
        · rename_i hb
          obtain ⟨l', hl, rfl⟩ := Option.map_eq_some_iff.1 h
          obtain ⟨q1, q2⟩ := mapM_spec hl
          unfold getO at hg
          split at hg
          · rename_i l1 t1 z1 ho
            cases hg
            obtain ⟨cap, rfl, hh, hc, _⟩ := hv.osl_inv
            obtain ⟨_, _, arr, e3, e4, e5, e6⟩ := hm.own b _ _ _ ho
            have hlen : l'.length = len * z := by rw [q1]; simp; omega
            refine .fsl _ _ _ _ _ _ (Lc b).blk off (fun j => arr.getD (off + j) default) (fun _ => rfl) hc (fun _ => rfl) (fun j hj => ?_) (fun j hj => ?_)
            · have hj1 : off + j < arr.size := by omega
              have := e6 (off + j) (by omega) hj1
              have e : arr.getD (off + j) default = arr[off + j] := by simp [hj1]
              rw [e]
              exact ⟨rdC_all e3 hj1, this.1⟩
            · have hj1 : off + j < arr.size := by omega
              have e : arr.getD (off + j) default = arr[off + j] := by simp [hj1]
              simp only [e]
              have := q2 j (by omega) hj
              simp only [List.getElem_take, List.getElem_drop] at this
              exact ih (e6 (off + j) (by omega) hj1).2 this
          · cases hg
        · cases h
      · cases h
    | optr b off =>
      simp only [frz] at h
      split at h
      · rename_i l t z hg
        obtain ⟨l', hl, rfl⟩ := Option.map_eq_some_iff.1 h
        obtain ⟨q1, q2⟩ := mapM_spec hl
        unfold getO at hg
        split at hg
        · rename_i l1 t1 z1 ho
          cases hg
          obtain ⟨rfl, hh⟩ := hv.optr_inv
          obtain ⟨_, _, arr, e3, e4, e5, e6⟩ := hm.own b _ _ _ ho
          have : FR m0 (Mem.all w) true (.fptr true l' off) (.pointer (some ⟨(Lc b).blk, 0 + off, none⟩)) := by
            refine .fptr _ _ _ _ _ _ (fun j => arr.getD j default) (fun _ => rfl) (fun j hj => ?_) (fun j hj => ?_)
            · have hj1 : j < arr.size := by omega
              have e : arr.getD j default = arr[j] := by simp [hj1]
              rw [e, Nat.zero_add]
              exact ⟨rdC_all e3 hj1, (e6 j (by omega) hj1).1⟩
            · have hj1 : j < arr.size := by omega
              have e : arr.getD j default = arr[j] := by simp [hj1]
              simp only [e]
              exact ih (e6 j (by omega) hj1).2 (q2 j (by omega) hj)
          rwa [Nat.zero_add] at this
        · cases hg
      · cases h
    | clo f l => simp only [frz] at h; cases h
    | omap b => simp only [frz] at h; cases h

/-- All blocks from a number on. -/
def Mem.from (m : Mem) (B : Nat) (w : World) : Mem := fun b => if b < B then m b else w.heap[b]?

theorem FR.low {m0 m1 m0' mo : Mem} (h0 : m0.le m0') {v : V} {x : Value} {c : Bool} (h : FR m0 m1 c v x) : c = false → FR m0' mo false v x := by
  induction h with
  | lit c v => intro _; exact .lit _ v
  | zsl c A => intro _; exact .zsl _ A
  | agg c l arr hl _ ih => intro e; exact .agg _ l arr hl fun j h h' => ih j h h' e
  | tup c l arr hl _ ih => intro e; exact .tup _ l arr hl fun j h h' => ih j h h' e
  | fsl c b l len cap A B' o vs hb hc hA hr _ ih =>
    intro e
    have hbf : b = false := by
      cases b
      · rfl
      · have := hb rfl; rw [e] at this; cases this
    subst hbf
    exact .fsl _ _ l len cap A B' o vs (fun h => by cases h) hc hA (fun j hj => ⟨rdC_le h0 (hr j hj).1, (hr j hj).2⟩) fun j hj => ih j hj rfl
  | fptr c b l off B' o vs hb hr _ ih =>
    intro e
    have hbf : b = false := by
      cases b
      · rfl
      · have := hb rfl; rw [e] at this; cases this
    subst hbf
    exact .fptr _ _ l off B' o vs (fun h => by cases h) (fun j hj => ⟨rdC_le h0 (hr j hj).1, (hr j hj).2⟩) fun j hj => ih j hj rfl

theorem out_ok {B : Nat} {mb : Mem} (hm : MemR n Lc m0 m1 H w) (h0 : m0.le (Mem.from mb B w)) (hB : ∀ h, Own n Lc h → B ≤ (Lc h).blk) (mo : Mem) : ∀ (k : Nat) {v v' : V} {x : Value}, VR n Lc m0 m1 v x → out H k v = some v' → FR (Mem.from mb B w) mo false v' x := by
  have rd : ∀ {b o : Nat} {arr : Array Value} {t : TypeId} {ax : Nat × Nat}, Own n Lc b → w.heap[(Lc b).blk]? = some (.cells arr t ax) → (h : o < arr.size) → rdC (Mem.from mb B w) (Lc b).blk o = some arr[o] := fun {b o arr t ax} hb h1 h2 => by
    have : ¬ (Lc b).blk < B := by have := hB b hb; omega
    simp [rdC, Mem.from, this, h1, h2]
  intro k
  induction k with
  | zero => intro v v' x _ h; cases h
  | succ k ih =>
    intro v v' x hv h
    cases v with
    | lit u => simp only [out] at h; cases h; rw [hv.lit_inv]; exact .lit _ _
    | zsl => simp only [out] at h; cases h; obtain ⟨A, rfl⟩ := hv.zsl_inv; exact .zsl _ _
    | fsl t l len =>
      cases t <;> simp only [out] at h <;> cases h
      cases hv with
      | fr h =>
        cases h with
        | fsl _ _ _ _ cap A b o vs hb hc hA hr hfr =>
          exact .fsl _ _ l len cap A b o vs (fun h => by cases h) hc hA (fun j hj => ⟨rdC_le h0 (hr j hj).1, (hr j hj).2⟩) fun j hj => (hfr j hj).low h0 rfl
    | fptr t l o =>
      cases t <;> simp only [out] at h <;> cases h
      cases hv with
      | fr h =>
        cases h with
        | fptr _ _ _ _ b o vs hb hr hfr =>
          exact .fptr _ _ l _ b o vs (fun h => by cases h) (fun j hj => ⟨rdC_le h0 (hr j hj).1, (hr j hj).2⟩) fun j hj => (hfr j hj).low h0 rfl
    | agg l =>
      simp only [out] at h
      obtain ⟨l', hl, rfl⟩ := Option.map_eq_some_iff.1 h
      obtain ⟨q1, q2⟩ := mapM_spec hl
      obtain ⟨arr, rfl, a1, a2⟩ := hv.agg_inv
      exact .agg _ _ _ (by omega) fun j hj hj' => ih (a2 j (by omega) hj') (q2 j (by omega) hj)
    | tup l =>
      simp only [out] at h
      obtain ⟨l', hl, rfl⟩ := Option.map_eq_some_iff.1 h
      obtain ⟨q1, q2⟩ := mapM_spec hl
      obtain ⟨arr, rfl, a1, a2⟩ := hv.tup_inv
      exact .tup _ _ _ (by omega) fun j hj hj' => ih (a2 j (by omega) hj') (q2 j (by omega) hj)
    | osl b off len =>
      simp only [out] at h
      split at h
      · rename_i l t z hg
        split at h
        · rename_i hb
          obtain ⟨l', hl, rfl⟩ := Option.map_eq_some_iff.1 h
          obtain ⟨q1, q2⟩ := mapM_spec hl
          unfold getO at hg
          split at hg
          · rename_i l1 t1 z1 ho
            cases hg
            obtain ⟨cap, rfl, hh, hc, _⟩ := hv.osl_inv
            obtain ⟨_, _, arr, e3, e4, e5, e6⟩ := hm.own b _ _ _ ho
            have hlen : l'.length = len * z := by rw [q1]; simp; omega
            refine .fsl _ _ _ _ _ _ (Lc b).blk off (fun j => arr.getD (off + j) default) (fun h => by cases h) hc (fun _ => rfl) (fun j hj => ?_) (fun j hj => ?_)
            · have hj1 : off + j < arr.size := by omega
              have := e6 (off + j) (by omega) hj1
              have e : arr.getD (off + j) default = arr[off + j] := by simp [hj1]
              rw [e]
              exact ⟨rd hh e3 hj1, this.1⟩
            · have hj1 : off + j < arr.size := by omega
              have e : arr.getD (off + j) default = arr[off + j] := by simp [hj1]
              simp only [e]
              have := q2 j (by omega) hj
              simp only [List.getElem_take, List.getElem_drop] at this
              exact ih (e6 (off + j) (by omega) hj1).2 this
          · cases hg
        · cases h
      · cases h
    | optr b off =>
      simp only [out] at h
      split at h
      · rename_i l t z hg
        obtain ⟨l', hl, rfl⟩ := Option.map_eq_some_iff.1 h
        obtain ⟨q1, q2⟩ := mapM_spec hl
        unfold getO at hg
        split at hg
        · rename_i l1 t1 z1 ho
          cases hg
          obtain ⟨rfl, hh⟩ := hv.optr_inv
          obtain ⟨_, _, arr, e3, e4, e5, e6⟩ := hm.own b _ _ _ ho
          have : FR (Mem.from mb B w) mo false (.fptr false l' off) (.pointer (some ⟨(Lc b).blk, 0 + off, none⟩)) := by
            refine .fptr _ _ _ _ _ _ (fun j => arr.getD j default) (fun h => by cases h) (fun j hj => ?_) (fun j hj => ?_)
            · have hj1 : j < arr.size := by omega
              have e : arr.getD j default = arr[j] := by simp [hj1]
              rw [e, Nat.zero_add]
              exact ⟨rd hh e3 hj1, (e6 j (by omega) hj1).1⟩
            · have hj1 : j < arr.size := by omega
              have e : arr.getD j default = arr[j] := by simp [hj1]
              simp only [e]
              exact ih (e6 j (by omega) hj1).2 (q2 j (by omega) hj)
          rwa [Nat.zero_add] at this
        · cases hg
      · cases h
    | clo f l => simp only [out] at h; cases h
    | omap b => simp only [out] at h; cases h

/-- A call that only reads, out of one with no objects of its own. -/
theorem pure_ok {f : FuncId} {vs as : List V} {H H1 : List O} {r r' : V} (has : vs.mapM (frz H depth) = some as) (hc : CallAt P f as [] r H1) (hr : out H1 depth r = some r') : CallAt P f vs H r' H := by
  obtain ⟨q1, q2⟩ := mapM_spec has
  refine ⟨hc.1, fun g hg xs hx => ?_⟩
  have hle : g.m1.le (Mem.all g.w) := hg.frn
  have h01 : g.m0.le (Mem.all g.w) := fun b o h => hle b o (hg.sub b o h)
  let g' : Org := ⟨0, g.L, g.m0, Mem.all g.w, g.w⟩
  have hg' : MemR g'.n g'.L g'.m0 g'.m1 [] g'.w := ⟨rfl, fun h l t z e => by simp at e, fun h es c e => by simp at e, fun h h1 => by simp [Liv] at h1, fun h h1 => by simp at h1, fun h h' h1 => by simp [Liv] at h1, fun h h1 => absurd h1.1 (Nat.not_lt_zero _), h01, fun b o h => h⟩
  have hx' : Rel g'.n g'.L g'.m0 g'.m1 as xs := ⟨by rw [q1]; exact hx.1, fun j hj hj' => .fr (frz_ok hg depth (hx.2 j (by omega) hj') (q2 j (by omega) hj))⟩
  refine Calls.mono (hc.2 g' hg' xs hx') fun e w' hp => ?_
  cases e with
  | panicked c => exact hp.elim
  | outgrown => exact hp.elim
  | returned x =>
    obtain ⟨n, L, m0, m1, a1, a2, a3, a4⟩ := hp
    have hsz : g.w.heap.size ≤ w'.heap.size := a3.size
    have hkeep : ∀ b, b < g.w.heap.size → w'.heap[b]? = g.w.heap[b]? := fun b hb => a3.keep b hb fun h hh => absurd hh.1 (Nat.not_lt_zero _)
    have hfrom : ∀ m : Mem, m.le (Mem.all g.w) → m.le (Mem.from m g.w.heap.size w') := fun m hm b o h => by
      have h1 := hm b o h
      have hb : b < g.w.heap.size := (Array.getElem?_eq_some_iff.1 h1).1
      simp [Mem.from, hb, h]
    have hB : ∀ h, Own n L h → g.w.heap.size ≤ (L h).blk := fun h hh => by
      rcases a3.new h hh with h1 | h1 | ⟨h0, h1, _⟩
      · exact absurd h1.1 (Nat.not_lt_zero _)
      · exact h1
      · exact absurd h1.1 (Nat.not_lt_zero _)
    have h0 : m0.le (Mem.from g.m0 g.w.heap.size w') := fun b o h => by
      have hw := a1.frn b o (a1.sub b o h)
      by_cases hb : b < g.w.heap.size
      · simp only [Mem.from, hb, if_true]
        cases hm : g.m0 b with
        | none =>
          have : g.w.heap.size ≤ b := a4.2.2.1 b hm (by rw [h]; simp)
          omega
        | some o' => rw [← a4.1 b o' hm, h]
      · simp only [Mem.from, hb, if_false]; exact hw
    refine ⟨g.n, g.L, Mem.from g.m0 g.w.heap.size w', Mem.from g.m1 g.w.heap.size w', ⟨hg.len, ?_, ?_, hg.live, hg.hole, hg.inj, ?_, ?_, ?_⟩, .fr (out_ok a1 h0 hB _ depth a2 hr).taint, ?_, ?_⟩
    · intro h l t z e
      obtain ⟨e1, e2, arr, e3, e4, e5, e6⟩ := hg.own h l t z e
      have hh : Own g.n g.L h := hg.live h (by rw [e]; trivial)
      refine ⟨e1, e2, arr, by rw [hkeep _ (hg.apart h hh).2]; exact e3, e4, e5, fun j hj hj' => ⟨(e6 j hj hj').1, (e6 j hj hj').2.mono (Nat.le_refl _) (fun _ _ => rfl) (hfrom _ h01) (hfrom _ hle)⟩⟩
    · intro h es c e
      have hh : Own g.n g.L h := hg.live h (by rw [e]; trivial)
      rw [hkeep _ (hg.apart h hh).2]; exact hg.map h es c e
    · intro h hh
      have := hg.apart h hh
      exact ⟨by simp [Mem.from, this.2, this.1], by omega⟩
    · intro b o h
      unfold Mem.from at *
      split at h
      · rename_i hb; rw [if_pos hb]; exact hg.sub b o h
      · rename_i hb; rw [if_neg hb]; exact h
    · intro b o h
      unfold Mem.from at h
      split at h
      · rename_i hb; rw [hkeep b hb]; exact hle b o h
      · exact h
    · exact ⟨a3.os, a3.tape, a3.output, a3.size, Nat.le_refl _, fun _ _ => rfl, fun b hb _ => hkeep b hb, fun h h1 => .inl h1⟩
    · refine ⟨hfrom _ h01, hfrom _ hle, fun b h h' => ?_, fun b h h' => ?_⟩
      · unfold Mem.from at h'
        split at h'
        · exact absurd h h'
        · omega
      · unfold Mem.from at h'
        split at h'
        · exact absurd h h'
        · omega

/-! ### The whole program -/
/-- What is known of the program's functions. -/
structure Known (P : Program) (pure : FuncId → Bool) (D : FuncId → Option Def) : Prop where
  mixed : P.follows .mixedOrders = true
  code : ∀ f p F, D f = some (.code p F) → ∃ fn, P.funcs[f]? = some fn ∧ funcC P pure fn = some F
  ext : ∀ f e, D f = some (.ext e) → ∀ vs H r H', e vs H = some (r, H') → CallAt P f vs H r H'
  pure : ∀ f, pure f = true → (∃ F, D f = some (.code true F)) ∨ ∃ e, D f = some (.ext e) ∧ ∀ vs H r H', e vs H = some (r, H') → H' = H ∧ ∀ H2, Keeps H H2 → e vs H2 = some (r, H2)

theorem run_ok {pure : FuncId → Bool} {D : FuncId → Option Def} (h : Known P pure D) : ∀ k, CallOk P (run D k) := by
  have hp : ∀ k, Reads (run D k) pure := by
    intro k f args H r H' hf he
    cases k with
    | zero => cases he
    | succ k =>
      rcases h.pure f hf with ⟨F, hF⟩ | ⟨e, hE, h2⟩
      · simp only [run, hF] at he ⊢
        split at he
        · rename_i as has
          split at he
          · rename_i r1 H1 he1
            obtain ⟨u, hu, e⟩ := Option.map_eq_some_iff.1 he
            cases e
            refine ⟨rfl, fun H2 hk => ?_⟩
            rw [mapM_mono (fun v v' => hk.frz depth) has]
            simp only [he1, hu, Option.map_some]
          · cases he
        · cases he
      · simp only [run, hE] at he ⊢
        exact h2 _ _ _ _ he
  intro k
  induction k with
  | zero => intro f vs H r H' he; cases he
  | succ k ih =>
    intro f vs H r H' he
    cases hD : D f with
    | none => simp only [run, hD] at he; cases he
    | some d =>
      cases d with
      | ext e => simp only [run, hD] at he; exact h.ext f e hD _ _ _ _ he
      | code p F =>
        obtain ⟨fn, hf, hF⟩ := h.code f p F hD
        cases p with
        | false =>
          simp only [run, hD] at he
          exact func_ok h.mixed ih (hp k) hf hF he
        | true =>
          simp only [run, hD] at he
          split at he
          · rename_i as has
            split at he
            · rename_i r1 H1 he1
              obtain ⟨u, hu, e⟩ := Option.map_eq_some_iff.1 he
              cases e
              exact pure_ok has (func_ok h.mixed ih (hp k) hf hF he1) hu
            · cases he
          · cases he
end
end Go.Proofs.Vm
/-! Reckoning with a table in which some functions stand as what is known of them. -/
namespace Go.Proofs.Vm
open Go

section
variable {D : FuncId → Option Def} {c : Callee} (hc : ∀ f a H r, c f a H = some r → Fx D f a H fun x X => (x, X) = r)
include hc
theorem sim_L : ∀ (l : List In) {st st' : St}, evL c l st = some st' → Lx D l st.1 st.2 fun s H => (s, H) = st'
  | [], st, st', h => by cases h; exact Lx_nil.2 rfl
  | ⟨d, g, i⟩ :: l, st, st', h => by
    obtain ⟨s, H⟩ := st
    cases hg : wantB s g with
    | false =>
      refine (Lx_skip (i := ⟨d, g, i⟩) hg).2 ?_
      have h1 : evO c ⟨d, g, i⟩ (s, H) = some (put s d .none_, H) := by unfold evO; rw [if_neg (by simp [hg])]
      simp only [evL, h1] at h
      exact sim_L l h
    | true =>
      refine (Lx_want hg).2 ?_
      have key : evO c ⟨d, g, i⟩ (s, H) = evO c ⟨d, none, i⟩ (s, H) := by
        have h2 : wantB s none = true := rfl
        unfold evO
        simp only [hg, h2, if_true]
      simp only [evL, key] at h
      have call : ∀ f args, evO c ⟨d, none, i⟩ (s, H) = (c f args H).map (fun r => (put s d r.1, r.2)) → (∀ Q, Fx D f args H (fun r H' => Lx D l (put s d r) H' Q) → Lx D (⟨d, none, i⟩ :: l) s H Q) → Lx D (⟨d, none, i⟩ :: l) s H fun s H => (s, H) = st' := by
        intro f args e1 e2
        rw [e1] at h
        cases hr : c f args H with
        | none => rw [hr] at h; cases h
        | some r =>
          rw [hr] at h
          refine e2 _ (Fx_mono (hc f args H r hr) ?_)
          rintro x X rfl
          exact sim_L l h
      cases i with
      | call f as => exact call f _ rfl fun Q q => Lx_call.2 q
      | callv x as =>
        cases hx : x.ev s with
        | clo f caps => exact call f _ (by simp [evO, wantB, hx]) fun Q q => (Lx_callv hx).2 q
        | _ => simp [evO, wantB, hx] at h
      | _ =>
        refine (Lx_cons (by simp) (by simp) rfl).2 ?_
        simp only [evO, wantB, if_true] at h
        split at h
        · rename_i st1 h1
          obtain ⟨r, hr, rfl⟩ := Option.map_eq_some_iff.1 h1
          exact ⟨r, hr, sim_L l h⟩
        · cases h
theorem sim_B : ∀ (n : Nat) (b : B) {st : St} {r : Ex × St}, evB c n b st = some r → Bx D b st.1 st.2 fun e s H => (e, (s, H)) = r
  | 0, _, _, _, h => by cases h
  | n + 1, b, st, r, h => by
    obtain ⟨s, H⟩ := st
    cases b with
    | ops l =>
      simp only [evB] at h
      obtain ⟨st2, h1, rfl⟩ := Option.map_eq_some_iff.1 h
      refine Bx_ops.2 ?_
      obtain ⟨k, st3, e, q⟩ := sim_L hc l h1
      exact ⟨k, st3, e, congrArg (Prod.mk Ex.normal) q⟩
    | rsv k l =>
      simp only [evB] at h
      obtain ⟨st2, h1, rfl⟩ := Option.map_eq_some_iff.1 h
      refine Bx_rsv.2 ?_
      obtain ⟨k, st3, e, q⟩ := sim_L hc _ h1
      exact ⟨k, st3, e, congrArg (Prod.mk Ex.normal) q⟩
    | skip => simp only [evB] at h; cases h; exact Bx_skip.2 rfl
    | ret => simp only [evB] at h; cases h; exact Bx_ret.2 rfl
    | exit id => simp only [evB] at h; cases h; exact Bx_exit.2 rfl
    | seq a b =>
      simp only [evB] at h
      refine Bx_seq.2 ?_
      cases ha : evB c n a (s, H) with
      | none => rw [ha] at h; cases h
      | some x =>
        rw [ha] at h
        obtain ⟨e, s1, H1⟩ := x
        refine Bx_mono (sim_B n a ha) ?_
        rintro e' s' H' q
        cases q
        cases e with
        | normal => exact sim_B n b h
        | exit id => cases h; rfl
        | ret => cases h; rfl
    | cond x y z =>
      simp only [evB] at h
      cases hx : x.ev s with
      | lit v => cases v with
        | bool t => rw [hx] at h; exact (Bx_cond hx).2 (sim_B n _ h)
        | _ => rw [hx] at h; cases h
      | _ => rw [hx] at h; cases h
    | block id b =>
      simp only [evB] at h
      refine Bx_block.2 ?_
      cases ha : evB c n b (s, H) with
      | none => rw [ha] at h; cases h
      | some x =>
        rw [ha] at h
        obtain ⟨e, s1, H1⟩ := x
        refine Bx_mono (sim_B n b ha) ?_
        rintro e' s' H' q
        cases q
        cases e with
        | normal => cases h; rfl
        | exit id' =>
          simp only at h
          simp only [Ex.inBlock]
          by_cases hid : id' = id
          · rw [if_pos hid] at h ⊢; cases h; rfl
          · rw [if_neg hid] at h ⊢; cases h; rfl
        | ret => cases h; rfl
    | loop b =>
      simp only [evB] at h
      refine Bx_loop.2 ?_
      cases ha : evB c n b (s, H) with
      | none => rw [ha] at h; cases h
      | some x =>
        rw [ha] at h
        obtain ⟨e, s1, H1⟩ := x
        refine Bx_mono (sim_B n b ha) ?_
        rintro e' s' H' q
        cases q
        cases e with
        | normal => exact sim_B n _ h
        | exit id => cases h; rfl
        | ret => cases h; rfl
theorem sim_F {n : Nat} {fn : Fn} {args : List V} {H : List O} {r : V × List O} (h : evF c n fn args H = some r) : Bx D fn.body (argsAt args) H (Rx fn.res fun x X => (x, X) = r) := by
  unfold evF at h
  cases hb : evB c n fn.body (argsAt args, H) with
  | none => rw [hb] at h; cases h
  | some x =>
    rw [hb] at h
    obtain ⟨e, s1, H1⟩ := x
    refine Bx_mono (sim_B hc n fn.body hb) ?_
    rintro e' s' H' q
    cases q
    cases e with
    | exit id => cases h
    | normal => obtain ⟨vs, hv, rfl⟩ := Option.map_eq_some_iff.1 h; exact ⟨vs, hv, rfl⟩
    | ret => obtain ⟨vs, hv, rfl⟩ := Option.map_eq_some_iff.1 h; exact ⟨vs, hv, rfl⟩
end

/-- E stands for some functions of D for what is known of them. -/
def Subs (D : FuncId → Option Def) (E : FuncId → Option (List V → List O → Option (V × List O))) : Prop :=
  ∀ f g args H r, E f = some g → g args H = some r → Fx D f args H fun x X => (x, X) = r
def over (D : FuncId → Option Def) (E : FuncId → Option (List V → List O → Option (V × List O))) : FuncId → Option Def := fun f => match E f with
  | some g => some (.ext g)
  | none => D f
theorem sim_run {D : FuncId → Option Def} {E : FuncId → Option (List V → List O → Option (V × List O))} (hE : Subs D E) : ∀ (n : Nat) {f : FuncId} {args : List V} {H : List O} {r : V × List O}, run (over D E) n f args H = some r → Fx D f args H fun x X => (x, X) = r
  | 0, _, _, _, _, h => by cases h
  | n + 1, f, args, H, r, h => by
    have ih : ∀ f a H r, run (over D E) n f a H = some r → Fx D f a H fun x X => (x, X) = r := fun f a H r h => sim_run hE n h
    simp only [run] at h
    cases hf : E f with
    | some g =>
      have ho : over D E f = some (.ext g) := by unfold over; rw [hf]
      rw [ho] at h
      exact hE f g args H r hf h
    | none =>
      have ho : over D E f = D f := by unfold over; rw [hf]
      rw [ho] at h
      cases hd : D f with
      | none => rw [hd] at h; cases h
      | some df =>
        rw [hd] at h
        cases df with
        | ext g => exact (Fx_ext hd).2 ⟨r, h, rfl⟩
        | code p fn =>
          cases p with
          | false => exact (Fx_code hd).2 (sim_F ih h)
          | true =>
            simp only at h
            cases ha : args.mapM (frz H depth) with
            | none => rw [ha] at h; cases h
            | some as =>
              rw [ha] at h
              simp only at h
              cases hr : evF (run (over D E) n) n fn as [] with
              | none => rw [hr] at h; cases h
              | some x =>
                rw [hr] at h
                obtain ⟨y, H1⟩ := x
                obtain ⟨z, hz, rfl⟩ := Option.map_eq_some_iff.1 h
                refine (Fx_pure hd ha).2 (Bx_mono (sim_F ih hr) ?_)
                rintro e s X q
                cases e with
                | exit id => exact q
                | normal => obtain ⟨vs, hv, q⟩ := q; cases q; exact ⟨vs, hv, z, hz, rfl⟩
                | ret => obtain ⟨vs, hv, q⟩ := q; cases q; exact ⟨vs, hv, z, hz, rfl⟩
end Go.Proofs.Vm
/-! Arguments laid open: what is read of an argument, as a value of the abstract machine. -/
namespace Go.Proofs.Vm
open Go

/-- What lies in a fixed number of cells. -/
class Enc (α : Type) where
  sz : Nat
  cells : α → List V
  len : ∀ x, (cells x).length = sz
/-- A list of such, laid open. -/
def sl {α : Type} [Enc α] (t : Bool) (l : List α) : V := .fsl t (l.flatMap Enc.cells) l.length
section
variable {α : Type} [Enc α] {l : List α} {i k : Nat} {x : α}
theorem flat_len (l : List α) : (l.flatMap Enc.cells).length = l.length * Enc.sz α := by
  induction l with
  | nil => simp
  | cons a l ih => simp [List.flatMap_cons, ih, Enc.len, Nat.add_mul]; omega
theorem flat_drop (h : l[i]? = some x) : (l.flatMap Enc.cells).drop (i * Enc.sz α) = Enc.cells x ++ (l.drop (i + 1)).flatMap Enc.cells := by
  induction l generalizing i with
  | nil => simp at h
  | cons a l ih =>
    cases i with
    | zero => simp at h; subst h; simp [List.flatMap_cons]
    | succ i =>
      simp at h
      rw [List.flatMap_cons, Nat.add_mul, Nat.one_mul, Nat.add_comm, ← List.drop_drop, List.drop_left' (Enc.len a), ih h]
      simp
theorem flat_get (h : l[i]? = some x) (hk : k < Enc.sz α) : (l.flatMap Enc.cells)[i * Enc.sz α + k]? = (Enc.cells x)[k]? := by
  rw [← List.getElem?_drop, flat_drop h, List.getElem?_append_left (by rw [Enc.len]; exact hk)]
end

/-! ### Readings -/
def noMem : Mem := fun _ => none
def memOf (w : World) : Mem := fun b => w.heap[b]?
/-- Cells, as they are and as the abstract machine sees them. -/
def CR (w : World) (l : List V) (cs : List Value) : Prop := l.length = cs.length ∧ ∀ j (h : j < l.length) (h' : j < cs.length), FR noMem (memOf w) true l[j] cs[j] ∧ cs[j].oneCell' = true

section
variable {H : Type} {enc : TypeId × Value → H} {P : Program} {w : World} {sp : Nat → Bool} {hd : Bool} {t : TypeId}
theorem CR.nil : CR w [] [] := ⟨rfl, fun _ h => by cases h⟩
theorem CR.one {v : V} {x : Value} (h : FR noMem (memOf w) true v x) (h1 : x.oneCell' = true) : CR w [v] [x] := ⟨rfl, fun j h2 _ => by
  have : j = 0 := by simpa using h2
  subst this; exact ⟨h, h1⟩⟩
theorem CR.app {a b : List V} {c d : List Value} (h1 : CR w a c) (h2 : CR w b d) : CR w (a ++ b) (c ++ d) := by
  refine ⟨by rw [List.length_append, List.length_append, h1.1, h2.1], fun j h h' => ?_⟩
  by_cases hj : j < a.length
  · have := h1.2 j hj (by rw [← h1.1]; exact hj)
    rw [List.getElem_append_left hj, List.getElem_append_left (by rw [← h1.1]; exact hj)]
    exact this
  · simp only [List.length_append] at h h'
    have e := h1.1
    have := h2.2 (j - a.length) (by omega) (by omega)
    rw [List.getElem_append_right (by omega), List.getElem_append_right (by omega)]
    simpa only [← e] using this
theorem CR.cons {a b : List V} {cs : List Value} {o k : Nat} (h1 : CR w a ((cs.drop o).take k)) (h2 : CR w b (cs.drop (o + k))) : CR w (a ++ b) (cs.drop o) := by
  have := h1.app h2
  rw [show cs.drop (o + k) = (cs.drop o).drop k by rw [List.drop_drop], List.take_append_drop] at this
  exact this
theorem CR.last {cs : List Value} {o : Nat} (h : cs.length ≤ o) : CR w [] (cs.drop o) := by rw [List.drop_of_length_le h]; exact .nil

/-- A type's readings are such. -/
def Opens (α : Type) [Enc α] (enc : TypeId × Value → H) (P : Program) (w : World) (sp : Nat → Bool) (hd : Bool) (t : TypeId) : Prop :=
  ∀ fuel cs x, DataW.trod enc P w 0 sp hd fuel t cs = some x → ∃ y : α, CR w (Enc.cells y) cs

theorem rd_cell {B o : Nat} {v : Value} (h : w.cell? ⟨B, o, none⟩ = some v) : rdC (memOf w) B o = some v := by
  unfold World.cell? at h
  unfold rdC memOf
  split at h
  · rename_i h1
    simp only at h1
    rw [h1]; simpa using h
  · cases h
theorem fsl_of {α : Type} [Enc α] {l : List α} {B o cap : Nat} {A : Option Addr} (hA : l.flatMap Enc.cells ≠ [] → A = some ⟨B, o, none⟩) (hcap : l.length ≤ cap)
    (hc : ∀ j (h : j < (l.flatMap Enc.cells).length), ∃ v, w.cell? ⟨B, o + j, none⟩ = some v ∧ v.oneCell' = true ∧ FR noMem (memOf w) true (l.flatMap Enc.cells)[j] v) : FR noMem (memOf w) true (sl true l) (.slice A l.length cap) := by
  refine .fsl true true _ _ cap A B o (fun j => (w.cell? ⟨B, o + j, none⟩).getD undef) (fun h => h) hcap hA (fun j hj => ?_) (fun j hj => ?_)
  · obtain ⟨v, h1, h2, _⟩ := hc j hj
    rw [h1]
    exact ⟨rd_cell h1, h2⟩
  · obtain ⟨v, h1, _, h3⟩ := hc j hj
    simp only [h1, Option.getD_some]
    exact h3
theorem opens_slice {α : Type} [Enc α] {e : TypeId} (ht : P.underlying t = some (.slice e)) (hsz : P.cellsOf e = Enc.sz α) (hp : 0 < Enc.sz α) (ho : Opens α enc P w sp hd e) :
    ∀ fuel cs x, DataW.trod enc P w 0 sp hd fuel t cs = some x → ∃ l : List α, CR w [sl true l] cs := by
  intro fuel cs x h
  rcases DataW.trod_slice ht h with ⟨rfl, rfl⟩ | ⟨a, len, cap, elems, rest, n, rfl, rfl, rfl, _, hlc, hcm, hel, hread, _, _⟩
  · refine ⟨[], .one ?_ rfl⟩
    exact fsl_of (B := 0) (o := 0) (fun h => absurd rfl h) (Nat.le_refl _) (fun j h => by simp at h)
  · -- each element
    have each : ∀ i, i < len → ∃ (y : α) (c : List Value), CR w (Enc.cells y) c ∧ c.length = Enc.sz α ∧ ∀ k, k < Enc.sz α → w.cell? ((a.add (i * Enc.sz α)).add k) = c[k]? := by
      intro i hi
      have h1 := hread i hi
      rw [List.getElem?_eq_getElem (by omega)] at h1
      obtain ⟨c, hc, h2⟩ := Option.bind_eq_some_iff.1 h1
      obtain ⟨y, hy⟩ := ho _ _ _ h2
      obtain ⟨_, hl, hcell⟩ := World.cells?_some hc
      rw [hsz] at hl hcell
      exact ⟨y, c, hy, hl, hcell⟩
    have all : ∀ m, m ≤ len → ∃ l : List α, l.length = m ∧ ∀ i y, l[i]? = some y → ∃ c : List Value, CR w (Enc.cells y) c ∧ c.length = Enc.sz α ∧ ∀ k, k < Enc.sz α → w.cell? ((a.add (i * Enc.sz α)).add k) = c[k]? := by
      intro m
      induction m with
      | zero => intro _; exact ⟨[], rfl, fun i y h => by simp at h⟩
      | succ m ih =>
        intro hm
        obtain ⟨l, hl, hl2⟩ := ih (by omega)
        obtain ⟨y, c, h1, h2, h3⟩ := each m (by omega)
        refine ⟨l ++ [y], by simp [hl], fun i z hz => ?_⟩
        by_cases hi : i < l.length
        · rw [List.getElem?_append_left hi] at hz; exact hl2 i z hz
        · rw [List.getElem?_append_right (by omega)] at hz
          have : i = m := by
            by_cases e : i - l.length = 0
            · omega
            · rw [List.getElem?_eq_none (by simp; omega)] at hz; cases hz
          subst this
          rw [hl, Nat.sub_self] at hz
          simp at hz; subst hz
          exact ⟨c, h1, h2, h3⟩
    obtain ⟨l, hl, hl2⟩ := all len (Nat.le_refl _)
    refine ⟨l, .one ?_ rfl⟩
    have hspot : l.flatMap (Enc.cells (α := α)) ≠ [] → a.spot = none := by
      intro hne
      have hlp : 0 < len := by
        rcases Nat.eq_zero_or_pos len with h0 | h0
        · rw [h0] at hl; rw [List.length_eq_zero_iff.1 hl] at hne; exact absurd rfl hne
        · exact h0
      obtain ⟨y, c, _, h2, h3⟩ := each 0 hlp
      have h4 := h3 0 hp
      rw [List.getElem?_eq_getElem (by omega)] at h4
      have : ((a.add (0 * Enc.sz α)).add 0) = a := by simp [Addr.add]
      rw [this] at h4
      exact World.cell?_spot h4
    rw [← hl]
    refine fsl_of (B := a.block) (o := a.off) (fun hne => by have := hspot hne; cases a; simp_all) (by omega) (fun j hj => ?_)
    have hsp := hspot (fun e => by rw [e] at hj; simp at hj)
    rw [flat_len] at hj
    have hj2 : j = (j / Enc.sz α) * Enc.sz α + j % Enc.sz α := by rw [Nat.mul_comm]; exact (Nat.div_add_mod _ _).symm
    have hi : j / Enc.sz α < l.length := Nat.div_lt_of_lt_mul (by rw [Nat.mul_comm]; exact hj)
    have hk : j % Enc.sz α < Enc.sz α := Nat.mod_lt _ hp
    generalize j / Enc.sz α = i at *
    generalize j % Enc.sz α = k at *
    obtain ⟨c, h1, h2, h3⟩ := hl2 i l[i] (List.getElem?_eq_getElem hi)
    have h4 := h3 k hk
    rw [List.getElem?_eq_getElem (by omega)] at h4
    have hadd : ((a.add (i * Enc.sz α)).add k) = ⟨a.block, a.off + j, none⟩ := by
      obtain ⟨b, o, s⟩ := a
      simp only at hsp
      subst hsp
      rw [hj2]
      unfold Addr.add
      by_cases e1 : i * Enc.sz α = 0
      · by_cases e2 : k = 0
        · simp [e1, e2]
        · simp [e1, e2]
      · by_cases e2 : k = 0
        · simp [e1, e2]
        · simp [e1, e2]; omega
    rw [hadd] at h4
    have hk' : k < (Enc.cells l[i]).length := by rw [Enc.len]; exact hk
    obtain ⟨f1, f2⟩ := h1.2 k hk' (by omega)
    refine ⟨c[k], h4, f2, ?_⟩
    have hg := flat_get (l := l) (List.getElem?_eq_getElem hi) hk
    rw [← hj2, List.getElem?_eq_getElem (by rw [flat_len]; exact hj), List.getElem?_eq_getElem hk'] at hg
    rw [Option.some.inj hg]; exact f1

/-! One cell. -/
theorem open_bool {fuel : Nat} {cs : List Value} {x : DataW H × List MemPlace} (ht : P.underlying t = some .bool) (h : DataW.trod enc P w 0 sp hd fuel t cs = some x) : ∃ b, CR w [.lit (.bool b)] cs := by
  obtain ⟨b, rfl, _⟩ := DataW.trod_bool ht h
  exact ⟨b, .one (.lit _ _) rfl⟩
theorem open_int {k : IntKind} {fuel : Nat} {cs : List Value} {x : DataW H × List MemPlace} (ht : P.underlying t = some (.int k)) (h : DataW.trod enc P w 0 sp hd fuel t cs = some x) : ∃ n, CR w [.lit (.int k n)] cs ∧ (Lit.int k n).wf = true := by
  obtain ⟨n, rfl, _, h1⟩ := DataW.trod_int ht h
  exact ⟨n, .one (.lit _ _) rfl, h1⟩
theorem open_string {fuel : Nat} {cs : List Value} {x : DataW H × List MemPlace} (ht : P.underlying t = some .string) (h : DataW.trod enc P w 0 sp hd fuel t cs = some x) : ∃ l : List UInt8, CR w [.lit (.string ⟨l.toArray⟩)] cs := by
  obtain ⟨s, rfl, _, _⟩ := DataW.trod_string ht h
  exact ⟨s.data.toList, .one (.lit _ _) rfl⟩
/-- A struct's fields: their types and places. -/
def structIs (P : Program) (t : TypeId) (l : List (TypeId × Nat)) (sz : Nat) : Bool := match P.underlying t with
  | some (.struct fs) => decide (fs.toList.map (fun f => (f.type, f.offset)) = l) && decide (P.cellsOf t = sz)
  | _ => false
theorem open_struct {l : List (TypeId × Nat)} {sz fuel : Nat} {cs : List Value} {x : DataW H × List MemPlace} (hs : structIs P t l sz = true) (h : DataW.trod enc P w 0 sp hd fuel t cs = some x) :
    cs.length = sz ∧ ∃ n, ∀ (i : Nat) (f : TypeId × Nat), l[i]? = some f → ∃ y, DataW.trod enc P w 0 sp hd n f.1 ((cs.drop f.2).take (P.cellsOf f.1)) = some y := by
  unfold structIs at hs
  split at hs
  · rename_i fs hfs
    simp only [Bool.and_eq_true, decide_eq_true_eq] at hs
    obtain ⟨hs1, hs2⟩ := hs
    obtain ⟨xs, n, rfl, rfl, h1, h2, h3⟩ := DataW.trod_struct hfs h
    refine ⟨by rw [h1, hs2], n, fun i f hf => ?_⟩
    rw [← hs1, List.getElem?_map] at hf
    obtain ⟨f', hf', rfl⟩ := Option.map_eq_some_iff.1 hf
    have hi : i < xs.length := by
      rw [h2]
      rcases Nat.lt_or_ge i fs.size with h4 | h4
      · exact h4
      · rw [List.getElem?_eq_none (by simpa using h4)] at hf'; cases hf'
    have := h3 i f' (by simpa using hf')
    rw [List.getElem?_eq_getElem hi] at this
    exact ⟨_, this⟩
  · cases hs
end
end Go.Proofs.Vm
/-! ! Natural numbers as bytes (base 256, most significant first) and as limbs (base 2^32, least significant first). -/
namespace Go.Proofs.Na

/-- The number that bytes are. -/
def nv (l : List UInt8) : Nat := l.foldl (fun a b => a * 256 + b.toNat) 0
def bytesGo : Nat → Nat → List UInt8 → List UInt8
  | 0, _, acc => acc
  | f + 1, n, acc => if n = 0 then acc else bytesGo f (n / 256) (UInt8.ofNat (n % 256) :: acc)
/-- A number's bytes, without leading zeros. -/
def nbl (n : Nat) : List UInt8 := bytesGo n n []

theorem foldl_nv (l : List UInt8) (a : Nat) : l.foldl (fun a b => a * 256 + b.toNat) a = a * 256 ^ l.length + nv l := by
  unfold nv
  induction l generalizing a with
  | nil => simp
  | cons b l ih =>
    simp only [List.foldl_cons, List.length_cons]
    rw [ih, ih (0 * 256 + b.toNat), Nat.pow_succ]
    grind
theorem nv_nil : nv [] = 0 := rfl
theorem nv_cons (b : UInt8) (l : List UInt8) : nv (b :: l) = b.toNat * 256 ^ l.length + nv l := by
  show (b :: l).foldl _ 0 = _
  rw [List.foldl_cons, foldl_nv]; simp
theorem nv_append (l m : List UInt8) : nv (l ++ m) = nv l * 256 ^ m.length + nv m := by
  show (l ++ m).foldl _ 0 = _
  rw [List.foldl_append, foldl_nv]; rfl
theorem nv_snoc (l : List UInt8) (b : UInt8) : nv (l ++ [b]) = nv l * 256 + b.toNat := by
  rw [nv_append, nv_cons]; simp [nv_nil]
theorem nv_lt (l : List UInt8) : nv l < 256 ^ l.length := by
  induction l with
  | nil => simp [nv_nil]
  | cons b l ih =>
    have hb := b.toNat_lt
    rw [nv_cons, List.length_cons, Nat.pow_succ]
    have : b.toNat * 256 ^ l.length ≤ 255 * 256 ^ l.length := Nat.mul_le_mul_right _ (by omega)
    omega
theorem bytesGo_acc : ∀ (f n : Nat) (acc : List UInt8), bytesGo f n acc = bytesGo f n [] ++ acc
  | 0, _, _ => rfl
  | f + 1, n, acc => by
    simp only [bytesGo]
    split
    · rfl
    · rw [bytesGo_acc f, bytesGo_acc f _ [_]]; simp
theorem bytesGo_fuel : ∀ (f n : Nat), n ≤ f → ∀ g, n ≤ g → bytesGo f n [] = bytesGo g n []
  | 0, n, h, g, hg => by
    have : n = 0 := by omega
    subst this
    cases g <;> simp [bytesGo]
  | f + 1, n, h, g, hg => by
    cases g with
    | zero =>
      have : n = 0 := by omega
      subst this; simp [bytesGo]
    | succ g =>
      simp only [bytesGo]
      split
      · rfl
      · rename_i h0
        have : n / 256 < n := Nat.div_lt_self (by omega) (by omega)
        rw [bytesGo_acc f, bytesGo_acc g, bytesGo_fuel f (n / 256) (by omega) g (by omega)]
theorem nbl_zero : nbl 0 = [] := rfl
theorem nbl_pos {n : Nat} (h : n ≠ 0) : nbl n = nbl (n / 256) ++ [UInt8.ofNat (n % 256)] := by
  have hlt : n / 256 < n := Nat.div_lt_self (by omega) (by omega)
  unfold nbl
  obtain ⟨m, rfl⟩ : ∃ m, n = m + 1 := ⟨n - 1, by omega⟩
  rw [bytesGo, if_neg h, bytesGo_acc, bytesGo_fuel m _ (by omega) ((m + 1) / 256) (Nat.le_refl _)]
theorem nv_nbl (n : Nat) : nv (nbl n) = n := by
  induction n using Nat.strongRecOn with
  | _ n ih =>
    by_cases h : n = 0
    · subst h; rfl
    · rw [nbl_pos h, nv_snoc, ih _ (Nat.div_lt_self (by omega) (by omega))]
      have : (UInt8.ofNat (n % 256)).toNat = n % 256 := by simp
      rw [this]; omega
/-- Without a leading zero. -/
def Tidy (l : List UInt8) : Prop := l.head? ≠ some 0
theorem nbl_tidy (n : Nat) : Tidy (nbl n) := by
  induction n using Nat.strongRecOn with
  | _ n ih =>
    by_cases h : n = 0
    · subst h; simp [Tidy, nbl_zero]
    · rw [nbl_pos h]
      unfold Tidy
      by_cases h2 : n / 256 = 0
      · rw [h2, nbl_zero]
        simp only [List.nil_append, List.head?_cons, ne_eq, Option.some.injEq]
        intro e
        have := congrArg UInt8.toNat e
        simp at this
        omega
      · have := ih _ (Nat.div_lt_self (by omega) (by omega : 1 < 256))
        unfold Tidy at this
        cases hq : nbl (n / 256) with
        | nil =>
          have h3 := nv_nbl (n / 256)
          rw [hq, nv_nil] at h3
          omega
        | cons b l =>
          rw [hq] at this
          simpa using this
theorem nv_tidy_pos {b : UInt8} {l : List UInt8} (h : b ≠ 0) : 256 ^ l.length ≤ nv (b :: l) := by
  rw [nv_cons]
  have : 1 ≤ b.toNat := by
    rcases Nat.eq_zero_or_pos b.toNat with e | e
    · exact absurd (UInt8.toNat_inj.1 (by simpa using e)) h
    · exact e
  have := Nat.mul_le_mul_right (256 ^ l.length) this
  omega
theorem pow_lt {a b : Nat} (h : 256 ^ a < 256 ^ b) : a < b := by
  rcases Nat.lt_or_ge a b with h1 | h1
  · exact h1
  · exact absurd (Nat.pow_le_pow_right (by omega : 0 < 256) h1) (by omega)
/-- Of two numbers without leading zeros the longer one is greater. -/
theorem tidy_lt {l m : List UInt8} (hm : Tidy m) (h : l.length < m.length) : nv l < nv m := by
  cases m with
  | nil => simp at h
  | cons b m =>
    have hb : b ≠ 0 := by simpa [Tidy] using hm
    have h1 := nv_lt l
    have h2 := nv_tidy_pos (l := m) hb
    have h3 : 256 ^ l.length ≤ 256 ^ m.length := Nat.pow_le_pow_right (by omega) (by simp at h; omega)
    omega
theorem nv_inj_len : ∀ {l m : List UInt8}, l.length = m.length → nv l = nv m → l = m
  | [], [], _, _ => rfl
  | a :: l, b :: m, hl, h => by
    have hlen : l.length = m.length := by simpa using hl
    rw [nv_cons, nv_cons, hlen] at h
    have h1 := nv_lt l
    have h2 := nv_lt m
    rw [hlen] at h1
    have h3 : a.toNat = b.toNat := by
      have e1 : (a.toNat * 256 ^ m.length + nv l) / 256 ^ m.length = a.toNat := by
        rw [Nat.add_comm, Nat.add_mul_div_right _ _ (Nat.pow_pos (by omega)), Nat.div_eq_of_lt h1]; omega
      have e2 : (b.toNat * 256 ^ m.length + nv m) / 256 ^ m.length = b.toNat := by
        rw [Nat.add_comm, Nat.add_mul_div_right _ _ (Nat.pow_pos (by omega)), Nat.div_eq_of_lt h2]; omega
      rw [← e1, h, e2]
    have h4 : nv l = nv m := by rw [h3] at h; omega
    rw [UInt8.toNat_inj.1 h3, nv_inj_len hlen h4]
theorem tidy_inj {l m : List UInt8} (hl : Tidy l) (hm : Tidy m) (h : nv l = nv m) : l = m := by
  rcases Nat.lt_trichotomy l.length m.length with h1 | h1 | h1
  · have := tidy_lt hm h1; omega
  · exact nv_inj_len h1 h
  · have := tidy_lt hl h1; omega
theorem nbl_nv {l : List UInt8} (h : Tidy l) : nbl (nv l) = l := tidy_inj (nbl_tidy _) h (nv_nbl _)
theorem nv_drop0 (l : List UInt8) : nv (0 :: l) = nv l := by rw [nv_cons]; simp
/-- Without its leading zeros. -/
def tidy : List UInt8 → List UInt8
  | [] => []
  | b :: l => if b = 0 then tidy l else b :: l
theorem tidy_nv (l : List UInt8) : nv (tidy l) = nv l := by
  induction l with
  | nil => rfl
  | cons b l ih =>
    simp only [tidy]
    split
    · rename_i h; subst h; rw [ih, nv_drop0]
    · rfl
theorem tidy_tidy (l : List UInt8) : Tidy (tidy l) := by
  induction l with
  | nil => simp [tidy, Tidy]
  | cons b l ih =>
    simp only [tidy]
    split
    · exact ih
    · rename_i h; simpa [Tidy] using h
theorem tidy_eq (l : List UInt8) : tidy l = nbl (nv l) := by
  rw [← tidy_nv l, nbl_nv (tidy_tidy l)]
theorem nbl_length_le {n k : Nat} : (nbl n).length ≤ k ↔ n < 256 ^ k := by
  constructor
  · intro h
    have h1 := nv_lt (nbl n)
    rw [nv_nbl] at h1
    exact Nat.lt_of_lt_of_le h1 (Nat.pow_le_pow_right (by omega) h)
  · intro h
    cases hq : nbl n with
    | nil => simp
    | cons b l =>
      have ht := nbl_tidy n
      have h1 := nv_nbl n
      rw [hq] at ht h1
      have h2 := nv_tidy_pos (l := l) (b := b) (by simpa [Tidy] using ht)
      have : l.length < k := pow_lt (by omega)
      simp; omega
/-- The order of numbers, out of length and order of bytes. -/
theorem nv_cmp_cons {a b : UInt8} {l m : List UInt8} (h : l.length = m.length) : nv (a :: l) < nv (b :: m) ↔ a.toNat < b.toNat ∨ a.toNat = b.toNat ∧ nv l < nv m := by
  rw [nv_cons, nv_cons, h]
  have h1 := nv_lt l
  have h2 := nv_lt m
  rw [h] at h1
  generalize 256 ^ m.length = p at *
  rcases Nat.lt_trichotomy a.toNat b.toNat with h3 | h3 | h3
  · have : (a.toNat + 1) * p ≤ b.toNat * p := Nat.mul_le_mul_right _ h3
    rw [Nat.add_mul] at this
    simp only [h3, true_or, iff_true]; omega
  · rw [h3]; simp
  · have : (b.toNat + 1) * p ≤ a.toNat * p := Nat.mul_le_mul_right _ h3
    rw [Nat.add_mul] at this
    constructor
    · intro; omega
    · intro h4; omega

/-! ### Limbs -/
def BB : Nat := 4294967296
def lv : List Nat → Nat
  | [] => 0
  | a :: l => a + BB * lv l
def Limbs (l : List Nat) : Prop := ∀ x ∈ l, x < BB
theorem lv_append (l m : List Nat) : lv (l ++ m) = lv l + BB ^ l.length * lv m := by
  induction l with
  | nil => simp [lv]
  | cons a l ih => simp only [List.cons_append, lv, ih, List.length_cons, Nat.pow_succ]; grind
theorem lv_lt {l : List Nat} (h : Limbs l) : lv l < BB ^ l.length := by
  induction l with
  | nil => simp [lv]
  | cons a l ih =>
    have h1 := ih fun x hx => h x (List.mem_cons_of_mem _ hx)
    have h2 := h a List.mem_cons_self
    simp only [lv, List.length_cons, Nat.pow_succ]
    have : BB * (lv l + 1) ≤ BB * BB ^ l.length := Nat.mul_le_mul_left _ h1
    rw [Nat.mul_add] at this
    rw [Nat.mul_comm (BB ^ l.length)]; omega
theorem lv_zeros (k : Nat) : lv (List.replicate k 0) = 0 := by
  induction k with
  | zero => rfl
  | succ k ih => simp [List.replicate_succ, lv, ih]
theorem lv_set {l : List Nat} {i x : Nat} (h : i < l.length) : lv (l.set i x) + BB ^ i * l[i] = lv l + BB ^ i * x := by
  induction l generalizing i with
  | nil => simp at h
  | cons a l ih =>
    cases i with
    | zero => simp [lv]; omega
    | succ i =>
      have := ih (i := i) (by simpa using h)
      simp only [List.set_cons_succ, lv, List.getElem_cons_succ, Nat.pow_succ]
      grind
theorem BB_pos : 0 < BB := by decide
theorem lv_get_le {l : List Nat} {i : Nat} (h : i < l.length) : BB ^ i * l[i] ≤ lv l := by
  have h1 := lv_append (l.take i) (l.drop i)
  rw [List.take_append_drop, List.length_take, Nat.min_eq_left (by omega), List.drop_eq_getElem_cons h] at h1
  simp only [lv] at h1
  rw [h1, Nat.mul_add]
  omega
/-- A number's limbs. -/
def lbGo : Nat → Nat → List Nat
  | 0, _ => []
  | f + 1, n => if n = 0 then [] else n % BB :: lbGo f (n / BB)
def lb (n : Nat) : List Nat := lbGo n n
theorem lbGo_fuel : ∀ (f n g : Nat), n ≤ f → n ≤ g → lbGo f n = lbGo g n
  | 0, n, g, h, _ => by
    have : n = 0 := by omega
    subst this
    cases g <;> simp [lbGo]
  | f + 1, n, g, h, hg => by
    cases g with
    | zero =>
      have : n = 0 := by omega
      subst this; simp [lbGo]
    | succ g =>
      simp only [lbGo]
      split
      · rfl
      · rename_i h0
        have : n / BB < n := Nat.div_lt_self (by omega) (by decide)
        rw [lbGo_fuel f (n / BB) g (by omega) (by omega)]
theorem lb_zero : lb 0 = [] := rfl
theorem lb_pos {n : Nat} (h : n ≠ 0) : lb n = n % BB :: lb (n / BB) := by
  have hlt : n / BB < n := Nat.div_lt_self (by omega) (by decide)
  unfold lb
  obtain ⟨m, rfl⟩ : ∃ m, n = m + 1 := ⟨n - 1, by omega⟩
  rw [lbGo, if_neg h, lbGo_fuel m _ ((m + 1) / BB) (by omega) (Nat.le_refl _)]
theorem lv_lb (n : Nat) : lv (lb n) = n := by
  induction n using Nat.strongRecOn with
  | _ n ih =>
    by_cases h : n = 0
    · subst h; rfl
    · rw [lb_pos h, lv, ih _ (Nat.div_lt_self (by omega) (by decide)), Nat.mod_add_div]
theorem lb_limbs (n : Nat) : Limbs (lb n) := by
  induction n using Nat.strongRecOn with
  | _ n ih =>
    by_cases h : n = 0
    · subst h; intro x hx; simp [lb_zero] at hx
    · rw [lb_pos h]
      intro x hx
      rcases List.mem_cons.1 hx with rfl | hx
      · exact Nat.mod_lt _ BB_pos
      · exact ih _ (Nat.div_lt_self (by omega) (by decide)) x hx
/-- Where the last limb is not 0. -/
def LTidy (l : List Nat) : Prop := ∀ h : 0 < l.length, l[l.length - 1] ≠ 0
theorem lb_lv : ∀ {l : List Nat}, Limbs l → LTidy l → lb (lv l) = l
  | [], _, _ => rfl
  | a :: l, h, ht => by
    have ha := h a List.mem_cons_self
    have hl : Limbs l := fun x hx => h x (List.mem_cons_of_mem _ hx)
    have htl : LTidy l := fun h0 => by
      have := ht (by simp)
      have e : (a :: l).length - 1 = (l.length - 1) + 1 := by simp; omega
      simp only [e, List.getElem_cons_succ] at this
      exact this
    have hne : lv (a :: l) ≠ 0 := by
      intro e
      simp only [lv] at e
      have h1 : a = 0 := by omega
      have h2 : lv l = 0 := by
        rcases Nat.eq_zero_or_pos (lv l) with h | h
        · exact h
        · have := Nat.mul_pos BB_pos h; omega
      have h3 := lb_lv hl htl
      rw [h2] at h3
      have : l = [] := by rw [← h3]; rfl
      subst this; subst h1
      exact ht (by simp) rfl
    rw [lb_pos hne]
    simp only [lv]
    rw [Nat.add_mul_mod_self_left, Nat.mod_eq_of_lt ha, Nat.add_mul_div_left _ _ BB_pos, Nat.div_eq_of_lt ha, Nat.zero_add, lb_lv hl htl]
theorem lb_tidy (n : Nat) : LTidy (lb n) := by
  induction n using Nat.strongRecOn with
  | _ n ih =>
    by_cases h : n = 0
    · subst h; intro h; simp [lb_zero] at h
    · intro hl
      simp only [lb_pos h]
      have h2 := ih _ (Nat.div_lt_self (by omega) (by decide : 1 < BB))
      by_cases h3 : n / BB = 0
      · simp only [h3, lb_zero, List.length_cons, List.length_nil, Nat.zero_add, Nat.sub_self, List.getElem_cons_zero]
        rw [Nat.mod_eq_of_lt (by rcases Nat.lt_or_ge n BB with h4 | h4; exact h4; have := Nat.div_pos h4 BB_pos; omega)]
        exact h
      · have hp : 0 < (lb (n / BB)).length := by rw [lb_pos h3]; simp
        have := h2 hp
        have e : (n % BB :: lb (n / BB)).length - 1 = ((lb (n / BB)).length - 1) + 1 := by simp; omega
        simp only [e, List.getElem_cons_succ]
        exact this
theorem lb_len {n k : Nat} : (lb n).length ≤ k ↔ n < BB ^ k := by
  constructor
  · intro h
    have h1 := lv_lt (lb_limbs n)
    rw [lv_lb] at h1
    exact Nat.lt_of_lt_of_le h1 (Nat.pow_le_pow_right BB_pos h)
  · intro h
    rcases Nat.lt_or_ge k (lb n).length with h1 | h1
    · exfalso
      have h2 := lv_get_le (l := lb n) (i := (lb n).length - 1) (by omega)
      have h3 := lb_tidy n (by omega)
      rw [lv_lb] at h2
      have h4 : BB ^ k ≤ BB ^ ((lb n).length - 1) := Nat.pow_le_pow_right BB_pos (by omega)
      have h5 := Nat.mul_le_mul_left (BB ^ ((lb n).length - 1)) (show 1 ≤ (lb n)[(lb n).length - 1]'(by omega) by omega)
      omega
    · exact h1
theorem pow_up {k m : Nat} (h : k ≤ m) : 256 ^ k ≤ 256 ^ m := Nat.pow_le_pow_right (by omega) h
theorem pow_mul {z u k m n : Nat} (e : k + m = n) (h : z < 256 ^ k) (h' : u < 256 ^ m) : z * u < 256 ^ n := by
  subst e
  rw [Nat.pow_add]
  exact Nat.mul_lt_mul_of_lt_of_lt h h'
theorem pow_less {z k m : Nat} (h : z < 256 ^ k) (e : k ≤ m) : z < 256 ^ m := Nat.lt_of_lt_of_le h (pow_up e)
theorem pow_twice {z k m : Nat} (h : z < 256 ^ k + 256 ^ k) (e : k + 1 ≤ m) : z < 256 ^ m := by
  have h1 := pow_up e
  rw [Nat.pow_succ] at h1
  omega
theorem nbl_twice {z k m : Nat} (h : z < 256 ^ k + 256 ^ k) (e : k + 1 ≤ m) : (nbl z).length ≤ m := nbl_length_le.2 (pow_twice h e)
theorem nbl_mul {z u k m n : Nat} (e : k + m = n) (h : z < 256 ^ k) (h' : u < 256 ^ m) : (nbl (z * u)).length ≤ n := nbl_length_le.2 (pow_mul e h h')
theorem lb_mono {m n k : Nat} (h : m ≤ n) (hk : (lb n).length ≤ k) : (lb m).length ≤ k := lb_len.2 (Nat.lt_of_le_of_lt h (lb_len.1 hk))
theorem lb_inj {m n : Nat} (h : lb m = lb n) : m = n := by rw [← lv_lb m, h, lv_lb]
end Go.Proofs.Na
/-! ! Long division: a digit's guess. -/
namespace Go.Proofs.Na

/-- U = (top BB + u2) W + u', D = (d1 BB + d2) W + d', where W is a power of the base and u', d' are below it. -/
structure Guess (top u2 u' d1 d2 d' W : Nat) : Prop where
  hu2 : u2 < BB
  hd2 : d2 < BB
  hd1 : d1 < BB
  hu : u' < W
  hd : d' < W
  half : BB ≤ 2 * d1
  fits : (top * BB + u2) * W + u' < ((d1 * BB + d2) * W + d') * BB

namespace Guess
variable {top u2 u' d1 d2 d' W : Nat} (G : Guess top u2 u' d1 d2 d' W)
include G
theorem top_le : top < d1 * BB + BB := by
  have h1 := G.fits
  have h2 := G.hd
  have h3 := G.hd2
  have hW : 0 < W := by have := G.hd; omega
  rcases Nat.lt_or_ge top (d1 * BB + BB) with h | h
  · exact h
  · exfalso
    -- (d1 BB + BB) BB W <= top BB W
    have e1 : (d1 * BB + BB) * BB * W ≤ top * BB * W := Nat.mul_le_mul_right _ (Nat.mul_le_mul_right _ h)
    have e2 : (d1 * BB + d2) * W + d' < (d1 * BB + BB) * W := by
      have : (d1 * BB + d2 + 1) * W ≤ (d1 * BB + BB) * W := Nat.mul_le_mul_right _ (by omega)
      rw [Nat.add_mul _ 1] at this
      omega
    have e3 : ((d1 * BB + d2) * W + d') * BB ≤ (d1 * BB + BB) * W * BB := Nat.mul_le_mul_right _ (Nat.le_of_lt e2)
    have e4 : (top * BB + u2) * W = top * BB * W + u2 * W := by rw [Nat.add_mul]
    have e5 : (d1 * BB + BB) * W * BB = (d1 * BB + BB) * BB * W := by rw [Nat.mul_assoc, Nat.mul_comm W, Nat.mul_assoc]
    omega
/-- The digit. -/
def digit (_ : Guess top u2 u' d1 d2 d' W) : Nat := ((top * BB + u2) * W + u') / ((d1 * BB + d2) * W + d')
theorem dpos : 0 < (d1 * BB + d2) * W + d' := by
  have h1 := G.half
  have hB : 0 < BB := by decide
  have hW : 0 < W := by have := G.hd; omega
  have : 0 < (d1 * BB + d2) * W := Nat.mul_pos (by have : 0 < d1 * BB := Nat.mul_pos (by omega) hB; omega) hW
  omega
theorem digit_lt : G.digit < BB := by
  unfold digit
  rw [Nat.div_lt_iff_lt_mul G.dpos]
  have := G.fits
  rw [Nat.mul_comm BB]; exact this
/-- What is too great. -/
theorem over {q r : Nat} (hr : q * d1 + r = top) (h : r * BB + u2 < q * d2) : G.digit < q := by
  unfold digit
  rw [Nat.div_lt_iff_lt_mul G.dpos]
  have h1 : (r * BB + u2 + 1) * W ≤ q * d2 * W := Nat.mul_le_mul_right _ h
  have h2 := G.hu
  have e1 : q * ((d1 * BB + d2) * W + d') = q * d1 * BB * W + q * d2 * W + q * d' := by grind
  have e2 : (top * BB + u2) * W = q * d1 * BB * W + (r * BB + u2) * W := by rw [← hr]; grind
  have e3 : (r * BB + u2 + 1) * W = (r * BB + u2) * W + W := by grind
  have e4 : 0 ≤ q * d' := Nat.zero_le _
  omega
/-- The first guess is not too small. -/
theorem first (_ : 0 < d1) : G.digit ≤ top / d1 := by
  rcases Nat.lt_or_ge (top / d1) G.digit with h | h
  · exfalso
    have h1 := G.over (q := top / d1 + 1) (r := 0) 
    have h2 : top < (top / d1 + 1) * d1 := by
      rw [← Nat.div_lt_iff_lt_mul (by omega)]; omega
    -- digit * D <= U < (top + 1) BB W <= (top/d1+1) d1 BB W
    have h3 : G.digit * ((d1 * BB + d2) * W + d') ≤ (top * BB + u2) * W + u' := Nat.div_mul_le_self _ _
    have h4 : (top / d1 + 1) * ((d1 * BB + d2) * W + d') ≤ G.digit * ((d1 * BB + d2) * W + d') := Nat.mul_le_mul_right _ h
    have h5 : (top + 1) * (BB * W) ≤ (top / d1 + 1) * d1 * (BB * W) := Nat.mul_le_mul_right _ h2
    have h6 : (top / d1 + 1) * ((d1 * BB + d2) * W + d') = (top / d1 + 1) * d1 * (BB * W) + (top / d1 + 1) * (d2 * W + d') := by grind
    have h7 : (u2 + 1) * W ≤ BB * W := Nat.mul_le_mul_right _ G.hu2
    have h8 := G.hu
    have h9 : (top * BB + u2) * W = top * (BB * W) + u2 * W := by grind
    have h10 : (top + 1) * (BB * W) = top * (BB * W) + BB * W := by grind
    have h11 : (u2 + 1) * W = u2 * W + W := by grind
    have h12 : 0 ≤ (top / d1 + 1) * (d2 * W + d') := Nat.zero_le _
    omega
  · exact h
/-- What passes is too great by 1 at most. -/
theorem near {q r : Nat} (hr : q * d1 + r = top) (hq : q < BB) (h : q * d2 ≤ r * BB + u2) : q ≤ G.digit + 1 := by
  cases q with
  | zero => omega
  | succ q =>
    have : q ≤ G.digit := by
      unfold digit
      rw [Nat.le_div_iff_mul_le G.dpos]
      have h1 : (q + 1) * d2 * W ≤ (r * BB + u2) * W := Nat.mul_le_mul_right _ h
      have e2 : (top * BB + u2) * W = (q + 1) * d1 * BB * W + (r * BB + u2) * W := by rw [← hr]; grind
      have e1 : q * ((d1 * BB + d2) * W + d') + ((d1 * BB + d2) * W + d') = (q + 1) * d1 * BB * W + (q + 1) * d2 * W + (q + 1) * d' := by grind
      have hd := G.hd
      have h2 : (q + 1) * d' ≤ BB * W := Nat.mul_le_mul (by omega) (by omega)
      have h3 : BB * W ≤ (d1 * BB + d2) * W := Nat.mul_le_mul_right _ (by
        have h4 := G.half
        have : 1 ≤ d1 := by
          have : (2 : Nat) ≤ BB := by decide
          omega
        have := Nat.mul_le_mul_right BB this
        omega)
      omega
    omega
/-- Where the rest is at least the base, the guess passes. -/
theorem broke {q r : Nat} (hr : q * d1 + r = top) (h : BB ≤ r) : q < BB ∧ q * d2 ≤ r * BB + u2 := by
  have h1 := G.top_le
  have hq : q < BB := by
    rcases Nat.lt_or_ge q BB with h2 | h2
    · exact h2
    · exfalso
      have : BB * d1 ≤ q * d1 := Nat.mul_le_mul_right _ h2
      rw [Nat.mul_comm] at this
      omega
  refine ⟨hq, ?_⟩
  have h2 : q * d2 ≤ BB * BB := Nat.mul_le_mul (by omega) (by have := G.hd2; omega)
  have h3 : BB * BB ≤ r * BB := Nat.mul_le_mul_right _ h
  omega
end Guess
end Go.Proofs.Na
/-! ! Limbs in a number of places; shifts. -/
namespace Go.Proofs.Na

/-- A number's lowest limbs. -/
def ln : Nat → Nat → List Nat
  | 0, _ => []
  | n + 1, x => x % BB :: ln n (x / BB)
theorem ln_len (n x : Nat) : (ln n x).length = n := by
  induction n generalizing x with
  | zero => rfl
  | succ n ih => simp [ln, ih]
theorem ln_limbs (n x : Nat) : Limbs (ln n x) := by
  induction n generalizing x with
  | zero => intro y hy; simp [ln] at hy
  | succ n ih =>
    intro y hy
    rcases List.mem_cons.1 hy with rfl | hy
    · exact Nat.mod_lt _ BB_pos
    · exact ih _ y hy
theorem lv_ln (n x : Nat) : lv (ln n x) = x % BB ^ n := by
  induction n generalizing x with
  | zero => simp [ln, lv, Nat.mod_one]
  | succ n ih => simp only [ln, lv, ih]; rw [Nat.pow_succ', Nat.mod_mul]
theorem ln_lv : ∀ {l : List Nat}, Limbs l → ln l.length (lv l) = l
  | [], _ => rfl
  | a :: l, h => by
    have ha := h a List.mem_cons_self
    simp only [List.length_cons, ln, lv]
    rw [Nat.add_mul_mod_self_left, Nat.mod_eq_of_lt ha, Nat.add_mul_div_left _ _ BB_pos, Nat.div_eq_of_lt ha, Nat.zero_add, ln_lv fun x hx => h x (List.mem_cons_of_mem _ hx)]
theorem ln_get {n x i : Nat} (h : i < (ln n x).length) : (ln n x)[i] = x / BB ^ i % BB := by
  induction n generalizing x i with
  | zero => simp [ln] at h
  | succ n ih =>
    cases i with
    | zero => simp [ln]
    | succ i =>
      simp only [ln, List.getElem_cons_succ]
      rw [ih, Nat.div_div_eq_div_mul, ← Nat.pow_succ']
theorem lv_uniq {l : List Nat} {n x : Nat} (h : Limbs l) (hn : l.length = n) (hx : lv l = x) : l = ln n x := by rw [← hn, ← hx, ln_lv h]

theorem two_split {by_ : Nat} (h : by_ ≤ 31) : BB = 2 ^ by_ * 2 ^ (32 - by_) := by
  rw [← Nat.pow_add, show by_ + (32 - by_) = 32 by omega]; rfl
/-- A limb shifted: its lower and its upper part. -/
theorem shl_parts {u by_ : Nat} (h : by_ ≤ 31) : (u * 2 ^ by_) % BB = (u % 2 ^ (32 - by_)) * 2 ^ by_ ∧ (u % 2 ^ (32 - by_)) * 2 ^ by_ + 2 ^ by_ ≤ BB := by
  have hB := two_split h
  have hq : 0 < 2 ^ (32 - by_) := Nat.pow_pos (by omega)
  refine ⟨?_, ?_⟩
  · rw [hB, Nat.mul_comm u, Nat.mul_mod_mul_left, Nat.mul_comm]
  · have h1 := Nat.mod_lt u hq
    have h2 : (u % 2 ^ (32 - by_) + 1) * 2 ^ by_ ≤ 2 ^ (32 - by_) * 2 ^ by_ := Nat.mul_le_mul_right _ h1
    rw [Nat.add_mul, Nat.one_mul, Nat.mul_comm (2 ^ (32 - by_)) (2 ^ by_), ← hB] at h2
    exact h2

theorem get_small {o : List Nat} {i P : Nat} (hi : i < o.length) (h : lv o < BB ^ i * P) : o[i] < P := by
  have h2 := lv_get_le hi
  rcases Nat.lt_or_ge o[i] P with h3 | h3
  · exact h3
  · have := Nat.mul_le_mul_left (BB ^ i) h3; omega
theorem get_zero {o : List Nat} {i j P : Nat} (hj : j < o.length) (hij : i < j) (hP : P ≤ BB) (h : lv o < BB ^ i * P) : o[j] = 0 := by
  have h1 : lv o < BB ^ j * 1 := by
    have : BB ^ i * P ≤ BB ^ (i + 1) := by rw [Nat.pow_succ]; exact Nat.mul_le_mul_left _ hP
    have := Nat.pow_le_pow_right BB_pos (show i + 1 ≤ j by omega)
    omega
  have := get_small hj h1
  omega

theorem lv_dropD (l : List Nat) (i : Nat) : lv (l.drop i) = l.getD i 0 + BB * lv (l.drop (i + 1)) := by
  by_cases h : i < l.length
  · rw [List.drop_eq_getElem_cons h, List.getD_eq_getElem?_getD, List.getElem?_eq_getElem h]; rfl
  · rw [List.drop_of_length_le (by omega), List.drop_of_length_le (by omega), List.getD_eq_getElem?_getD, List.getElem?_eq_none (by omega)]; simp [lv]
theorem unshift_digit {a : List Nat} (ha : Limbs a) {i by_ : Nat} (hi : i < a.length) (hby : by_ ≤ 31) : lv a / 2 ^ by_ / BB ^ i % BB = (a[i] + BB * a.getD (i + 1) 0) / 2 ^ by_ % BB := by
  have h1 : lv a / BB ^ i = lv (a.drop i) := by
    have h2 := lv_append (a.take i) (a.drop i)
    rw [List.take_append_drop, List.length_take, Nat.min_eq_left (by omega)] at h2
    have h3 := lv_lt (l := a.take i) fun x hx => ha x (List.mem_of_mem_take hx)
    rw [List.length_take, Nat.min_eq_left (by omega)] at h3
    rw [h2, Nat.add_mul_div_left _ _ (Nat.pow_pos BB_pos), Nat.div_eq_of_lt h3, Nat.zero_add]
  rw [Nat.div_div_eq_div_mul, Nat.mul_comm, ← Nat.div_div_eq_div_mul, h1, lv_dropD a i, lv_dropD a (i + 1), List.getD_eq_getElem?_getD, List.getElem?_eq_getElem hi]
  simp only [Option.getD_some]
  generalize lv (a.drop (i + 1 + 1)) = R
  generalize a.getD (i + 1) 0 = c
  have hB := two_split hby
  have e : a[i] + BB * (c + BB * R) = (a[i] + BB * c) + 2 ^ by_ * (BB * (2 ^ (32 - by_) * R)) := by
    have : BB * (BB * R) = 2 ^ by_ * (BB * (2 ^ (32 - by_) * R)) := by
      conv => lhs; rw [hB]
      conv => rhs; rw [hB]
      grind
    rw [Nat.mul_add, this]; omega
  rw [e, Nat.add_mul_div_left _ _ (Nat.pow_pos (by omega)), Nat.add_mul_mod_self_left]
end Go.Proofs.Na
/-! What simp reckons with; calls. -/
namespace Go.Proofs.Vm
open Go
attribute [go_sem] pairK_s L_nil L_mv L_pick L_bin L_beq L_aeq L_snil L_un L_wrap L_str L_sst L_new L_box L_build L_bsl L_ld L_st L_nilc L_off L_fld L_ia L_idx L_ixa L_slen L_len L_cap L_app L_stD L_appD L_iaa L_bsz L_mk L_slc L_ext L_clo L_call L_callv Cont_at L_appz L_clr L_gt L_gf L_gn L_sls L_mkm L_lkm L_upm L_fill B_rsv B_ops At_at B_skip B_ret B_exit B_seq B_cond B_block B_loop N_n N_r N_e T_n T_r T_e I_n I_r I_e ev_t ev_c put_s put_n upd_at args_at cells_agg cells_b cells_i cells_s cells_sl cells_p cells_osl cells_fsl cells_optr cells_fptr pick_b bin_add bin_sub bin_mul bin_quo bin_rem bin_and bin_or bin_xor bin_eql bin_neq bin_lss bin_leq bin_gtr bin_geq bin_shl bin_shr beq_at aeq_at ia_osl ia_fsl ext_at wrap_at ld_f ld_o ldO_c st_o stO_c fld_at read_n read_s opt_s opt_map wpO_s off_o off_f nilc_o nilc_f box_at bsl_at un_not un_xor un_neg len_nil len_zsl len_osl len_fsl len_str mk_at callv_at cond_at fill_nil fill_cons Rx_n Rx_r leaf_b leaf_s leaf_i leaf_nil leaf_fsl leaf_osl leaf_optr leaf_fptr leaf_clo out_lit out_zsl out_fsl out_agg out_tup out1_lit out1_zsl out1_fsl out1_agg out2_lit mapM_nil' mapM_cons' evRs_nil evRs_t evRs_cell evR_cell one_1 one_2 one_0

section
variable {D : FuncId → Option Def} {s : Nat → V} {H : List O}
/-- A call that yields one thing alone. -/
theorem Fx_is {f : FuncId} {args : List V} {r : V} {H' : List O} (h : Fx D f args H fun x X => x = r ∧ X = H') (K : V → List O → Prop) : Fx D f args H K = K r H' := by
  obtain ⟨n, ⟨x, X⟩, h1, h2, h3⟩ := h
  simp only at h2 h3
  subst h2; subst h3
  apply propext
  constructor
  · rintro ⟨m, ⟨y, Y⟩, g1, g2⟩
    have e1 := run_le (D := D) (Nat.le_max_left n m) _ _ _ _ h1
    have e2 := run_le (D := D) (Nat.le_max_right n m) _ _ _ _ g1
    rw [e1] at e2
    cases e2
    exact g2
  · intro g; exact ⟨n, _, h1, g⟩
end
end Go.Proofs.Vm
/-! What is known of two functions of the library: strings.Compare, slices.Sort at []int. -/
namespace Go.Proofs.Vm
open Go

def cmpE : List V → List O → Option (V × List O)
  | [.lit (.string a), .lit (.string b)], H => some (.lit (.int .i64 (Lib.compareBytes a.data.toList b.data.toList)), H)
  | _, _ => none
def sortE : List V → List O → Option (V × List O)
  | [.osl h off n], H => match H[h]? with
    | some (.cells l t sz) => if sz = 1 ∧ off + n ≤ l.length ∧ 0 < n ∧ n < 4611686018427387904 then
        match intsV ((l.drop off).take n) with
        | some zs => some (.tup [], H.set h (.cells (l.take off ++ (zs.mergeSort fun x y => decide (x ≤ y)).map (fun z => .lit (.int .i64 z)) ++ l.drop (off + n)) t sz))
        | none => none
      else none
    | _ => none
  | [.lit (.slice none 0 0)], H => some (.tup [], H)
  | _, _ => none

end Go.Proofs.Vm
