/- The program's check of a group; the law ClearingErrors. -/
import Derived.Test.YtdaiaafehfbdfaaGreatDoorA4
set_option maxRecDepth 4000
set_option linter.unusedVariables false
set_option linter.unusedSimpArgs false
set_option linter.unnecessarySimpa false
set_option linter.unusedSectionVars false
/-! slices.Compact and slices.Sort of whole numbers; the members of an agreement. -/
namespace Go.Proofs.Vm
open Go Go.Proofs.Na

/-- Whole numbers as cells. -/
def ics (l : List Int) : List V := l.map fun n => V.int n
theorem ics_len (l : List Int) : (ics l).length = l.length := by simp [ics]
theorem ics_at {l : List Int} {i : Nat} (h : i < l.length) : (ics l)[i]? = some (.int l[i]) := by
  rw [List.getElem?_eq_getElem (by simpa [ics] using h)]; simp [ics]
theorem ics_append (a b : List Int) : ics (a ++ b) = ics a ++ ics b := by simp [ics]
theorem ics_lit (l : List Int) : (ics l).all isLit = true := by simp [ics, isLit]
theorem ics_take (l : List Int) (k : Nat) : (ics l).take k = ics (l.take k) := by simp [ics, List.map_take]
theorem ics_drop (l : List Int) (k : Nat) : (ics l).drop k = ics (l.drop k) := by simp [ics, List.map_drop]
theorem ics_set (l : List Int) (k : Nat) (x : Int) : (ics l).set k (.int x) = ics (l.set k x) := by simp [ics, List.map_set]
instance : Enc Int := ⟨1, fun n => [.int n], fun _ => rfl⟩
theorem ics_flat (l : List Int) : l.flatMap (Enc.cells (α := Int)) = ics l := by
  induction l with
  | nil => rfl
  | cons a l ih => rw [List.flatMap_cons, ih]; rfl

/-- Without neighbours that are equal. -/
def dd : List Int → List Int
  | [] => []
  | [a] => [a]
  | a :: b :: l => if a = b then dd (b :: l) else a :: dd (b :: l)
theorem dd_snoc : ∀ (l : List Int) (y x : Int), dd (l ++ [y, x]) = if x = y then dd (l ++ [y]) else dd (l ++ [y]) ++ [x]
  | [], y, x => by
    by_cases h : y = x
    · subst h; simp [dd]
    · have h' : ¬ x = y := fun e => h e.symm
      simp [dd, h, h']
  | [a], y, x => by
    have ih := dd_snoc [] y x
    simp only [List.nil_append] at ih
    simp only [List.cons_append, List.nil_append]
    rw [show dd [a, y, x] = if a = y then dd [y, x] else a :: dd [y, x] from rfl, ih, show dd [a, y] = if a = y then dd [y] else a :: dd [y] from rfl]
    split <;> split <;> simp
  | a :: b :: l, y, x => by
    have ih := dd_snoc (b :: l) y x
    simp only [List.cons_append] at ih ⊢
    rw [dd, ih, dd]
    split <;> split <;> simp
theorem dd_mem (z : Int) : ∀ l : List Int, z ∈ dd l ↔ z ∈ l
  | [] => by simp [dd]
  | [a] => by simp [dd]
  | a :: b :: l => by
    rw [dd]
    split
    · rename_i h; subst h; rw [dd_mem z (a :: l)]; simp
    · rw [List.mem_cons, dd_mem z (b :: l)]; simp
theorem dd_len : ∀ l : List Int, (dd l).length ≤ l.length
  | [] => by simp [dd]
  | [a] => by simp [dd]
  | a :: b :: l => by
    rw [dd]
    have := dd_len (b :: l)
    split
    · simp only [List.length_cons] at *; omega
    · simp only [List.length_cons] at *; omega
/-- One more of a list. -/
theorem dd_take {l : List Int} {i : Nat} (h1 : 1 ≤ i) (h2 : i < l.length) : dd (l.take (i + 1)) = if l[i] = l[i - 1]'(by omega) then dd (l.take i) else dd (l.take i) ++ [l[i]] := by
  obtain ⟨k, rfl⟩ : ∃ k, i = k + 1 := ⟨i - 1, by omega⟩
  simp only [Nat.add_sub_cancel]
  have e1 : l.take (k + 1) = l.take k ++ [l[k]] := by rw [List.take_add_one, List.getElem?_eq_getElem (by omega)]; rfl
  have e2 : l.take (k + 1 + 1) = l.take k ++ [l[k], l[k + 1]] := by rw [List.take_add_one, List.getElem?_eq_getElem h2, e1, List.append_assoc]; rfl
  rw [e2, dd_snoc, ← e1]
theorem take_set_snoc {α : Type} {l : List α} {k : Nat} {x : α} (h : k < l.length) : (l.set k x).take (k + 1) = l.take k ++ [x] := by
  rw [List.take_add_one, List.getElem?_set_self h, List.take_set_of_le (Nat.le_refl _)]; rfl

/-! ### slices.Compact -/
def cpI1 (h : Nat) (z : List Int) (H : List O) (i : Nat) (s : Nat → V) (X : List O) : Prop :=
  X = H ∧ s 0 = .osl h 0 z.length ∧ s 3 = .int ((i + 1 : Nat) : Int) ∧ i + 1 ≤ z.length ∧ dd (z.take (i + 1)) = z.take (i + 1)
def cpI2 (h : Nat) (z : List Int) (H : List O) (k0 : Nat) (j : Nat) (s : Nat → V) (X : List O) : Prop :=
  ∃ (L : List Int) (k : Nat), X = H.set h (.cells (ics L) ty_int 1) ∧ s 0 = .osl h 0 z.length ∧ s 3 = .int (k : Int) ∧ s 4 = .osl h k0 (z.length - k0) ∧ s 5 = .int ((j + 1 : Nat) : Int) ∧ k0 + j + 1 ≤ z.length ∧ k ≤ k0 + j ∧ L.length = z.length ∧
    L.take k = dd (z.take (k0 + j + 1)) ∧ k = (dd (z.take (k0 + j + 1))).length ∧ L.drop (k0 + j) = z.drop (k0 + j)
theorem c_Compact {h : Nat} {z : List Int} {H : List O} (hh : H[h]? = some (.cells (ics z) ty_int 1)) (hz : z.length < 4611686018427387904) (K : V → List O → Prop) :
    Fx D0 fn_slices_Compact_Sint_int [.osl h 0 z.length] H K = K (.osl h 0 (dd z).length) (H.set h (.cells (ics (dd z ++ List.replicate (z.length - (dd z).length) 0)) ty_int 1)) := by
  refine Fx_is ?_ K
  refine Fx_of d_slices_Compact_Sint_int ?_
  have hlt_ : h < H.length := flat_lt hh
  have hself : H.set h (.cells (ics z) ty_int 1) = H := by
    have := (List.getElem?_eq_some_iff.1 hh).2
    rw [← this, List.set_getElem_self]
  have same : dd z = z → H.set h (.cells (ics (dd z ++ List.replicate (z.length - (dd z).length) 0)) ty_int 1) = H := fun e => by
    rw [e]; simp [hself]
  by_cases h2 : z.length < 2
  · have e : dd z = z := by
      match z, h2 with
      | [], _ => rfl
      | [a], _ => rfl
    have h2' : (z.length : Int) < 2 := by omega
    rw [same e, e]
    simp [go_sem, F_slices_Compact_Sint_int, h2, h2']
  have h2' : ¬ (z.length : Int) < 2 := by omega
  simp [go_sem, F_slices_Compact_Sint_int, h2, h2']
  refine Bx_up (z.length - 1) (cpI1 h z H) ?_ ⟨rfl, rfl, rfl, by omega, ?_⟩
  rotate_left
  · match z, h2 with
    | a :: l, _ => simp [dd]
  rintro i s X hi ⟨rfl, s0, s3, hle, hdd⟩
  refine wpB_ok ?_
  by_cases hlt : i + 1 < z.length
  · have w1 : IntKind.i64.wrap (((i + 1 : Nat) : Int) - 1) = (i : Int) := by rw [wi (by omega) (by omega)]; omega
    have w2 := inc (i := i + 1) (by omega)
    have hl1 : i < z.length := by omega
    have g1 := ics_at hlt
    have g2 := ics_at hl1
    have hstep := dd_take (l := z) (i := i + 1) (by omega) hlt
    simp only [Nat.add_sub_cancel] at hstep
    have b1 : ((i + 1 : Nat) : Int) < (z.length : Int) := by omega
    have b2 : (0 : Int) ≤ ((i + 1 : Nat) : Int) := by omega
    by_cases heq : z[i + 1] = z[i]
    · rw [if_pos heq, hdd] at hstep
      have sl1 : ∀ K, slcK 1 (.osl h 0 z.length) (some (.lit (.int .i64 ((i + 1 : Nat) : Int)))) none none X K = K (.osl h (i + 1) (z.length - (i + 1))) X := fun K => by
        have hs : szO X h = some 1 := by simp [szO, getO, hh]
        have c1 : ¬ (((i + 1 : Nat) : Int) = (z.length : Int) ∧ ((i + 1 : Nat) : Int) ≠ 0) := by omega
        have c2 : (0 : Int) ≤ ((i + 1 : Nat) : Int) ∧ ((i + 1 : Nat) : Int) ≤ (z.length : Int) ∧ (z.length : Int) ≤ (z.length : Int) := by omega
        have c3 : ((z.length : Int) - ((i + 1 : Nat) : Int)).toNat = z.length - (i + 1) := by omega
        simp only [slcK, Option.map_some, Option.map_none, wpI, lenV, Opd.ev, optI, Int.toNat_natCast, Nat.mul_one, Nat.zero_add, c3]
        apply propext
        exact ⟨fun q => (q.2.2 c1).2, fun q => ⟨c2, fun e => absurd e c1, fun _ => ⟨.inr hs, q⟩⟩⟩
      simp [go_sem, s0, s3, hlt, hl1, hh, w1, b1, b2, g1, g2, heq, sl1, -Int.natCast_add]
      refine Bx_up (z.length - (i + 1) - 1) (cpI2 h z X (i + 1)) ?_ ⟨z, i + 1, by rw [hself], by simp [go_sem, s0], by simp [go_sem, s3], by simp [go_sem], by simp [go_sem], by omega, by omega, rfl, by rw [hstep], by rw [hstep, List.length_take]; omega, rfl⟩
      clear hi
      rintro j s X hj ⟨L, k, rfl, s0, s3, s4, s5, hj2, hk, hL, ht, hkl, hd⟩
      refine wpB_ok ?_
      have gX : ∀ o : O, (X.set h o)[h]? = some o := fun o => List.getElem?_set_self hlt_
      by_cases hlt2 : j + 1 < z.length - (i + 1)
      · have hp : i + 1 + j + 1 < z.length := by omega
        have f1 : L[i + 1 + j + 1]? = some z[i + 1 + j + 1] := by
          have := congrArg (·[1]?) hd
          simp only [List.getElem?_drop] at this
          rw [this, List.getElem?_eq_getElem hp]
        have f2 : L[i + 1 + j]? = some (z[i + 1 + j]'(by omega)) := by
          have := congrArg (·[0]?) hd
          simp only [List.getElem?_drop, Nat.add_zero] at this
          rw [this, List.getElem?_eq_getElem]
        have g1 : (ics L)[i + 1 + (j + 1)]? = some (.int z[i + 1 + j + 1]) := by unfold ics; rw [List.getElem?_map, show i + 1 + (j + 1) = i + 1 + j + 1 by omega, f1]; rfl
        have g2 : (ics L)[i + 1 + j]? = some (.int (z[i + 1 + j]'(by omega))) := by unfold ics; rw [List.getElem?_map, f2]; rfl
        have hstep2 := dd_take (l := z) (i := i + 1 + j + 1) (by omega) hp
        simp only [Nat.add_sub_cancel] at hstep2
        have w3 : IntKind.i64.wrap (((j + 1 : Nat) : Int) - 1) = (j : Int) := by rw [wi (by omega) (by omega)]; omega
        have w4 := inc (i := j + 1) (by omega)
        have b3 : ((j + 1 : Nat) : Int) < ((z.length - (i + 1) : Nat) : Int) := by omega
        have b4 : (0 : Int) ≤ ((j + 1 : Nat) : Int) := by omega
        have b5 : j < z.length - (i + 1) := by omega
        have hdrop : L.drop (i + 1 + (j + 1)) = z.drop (i + 1 + (j + 1)) := by
          have := congrArg (·.drop 1) hd
          simp only [List.drop_drop] at this
          exact this
        by_cases heq2 : z[i + 1 + j + 1] = z[i + 1 + j]'(by omega)
        · rw [if_pos heq2] at hstep2
          simp [go_sem, s0, s3, s4, s5, hlt2, gX, w3, w4, b3, b4, b5, g1, g2, heq2, -Int.natCast_add]
          exact ⟨by omega, L, k, rfl, by simp [go_sem, s0], by simp [go_sem, s3], by simp [go_sem, s4], by simp [go_sem], by omega, by omega, hL, by rw [show i + 1 + (j + 1) + 1 = i + 1 + j + 1 + 1 by omega, hstep2]; exact ht, by rw [show i + 1 + (j + 1) + 1 = i + 1 + j + 1 + 1 by omega, hstep2]; exact hkl, hdrop⟩
        · rw [if_neg heq2] at hstep2
          have hne2 : (z[i + 1 + j + 1] != z[i + 1 + j]'(by omega)) = true := bne_iff_ne.2 heq2
          have w5 := inc (i := k) (by omega)
          have b6 : k < z.length := by omega
          simp [go_sem, s0, s3, s4, s5, hlt2, gX, w3, w4, w5, b3, b4, b5, b6, g1, g2, hne2, -Int.natCast_add]
          generalize hx : z[i + 1 + j + 1] = x at *
          refine ⟨by rw [ics_len]; omega, by omega, L.set k x, k + 1, ?_, by simp [go_sem, s0], by simp [go_sem], by simp [go_sem, s4], by simp [go_sem], by omega, by omega, by simp [hL], ?_, ?_, ?_⟩
          · have hset : (ics L).take k ++ V.int x :: (ics L).drop (k + 1) = ics (L.set k x) := by rw [← ics_set, ← set_eq (ics L) (V.int x) (by rw [ics_len]; omega)]; simp
            rw [hset]
          · rw [take_set_snoc (by omega), show i + 1 + (j + 1) + 1 = i + 1 + j + 1 + 1 by omega, hstep2, ht]
          · rw [show i + 1 + (j + 1) + 1 = i + 1 + j + 1 + 1 by omega, hstep2, List.length_append, ← hkl]; rfl
          · rw [List.drop_set_of_lt (by omega)]; exact hdrop
      · have e : i + 1 + j + 1 = z.length := by omega
        rw [e, List.take_length] at ht hkl
        have sl2 : ∀ K, slcK 1 (.osl h 0 z.length) (some (.lit (.int .i64 (k : Int)))) none none (X.set h (.cells (ics L) ty_int 1)) K = K (.osl h k (z.length - k)) (X.set h (.cells (ics L) ty_int 1)) := fun K => by
          have hs : szO (X.set h (.cells (ics L) ty_int 1)) h = some 1 := by simp [szO, getO, gX]
          have c1 : ¬ ((k : Int) = (z.length : Int) ∧ (k : Int) ≠ 0) := by omega
          have c2 : (0 : Int) ≤ (k : Int) ∧ (k : Int) ≤ (z.length : Int) ∧ (z.length : Int) ≤ (z.length : Int) := by omega
          have c3 : ((z.length : Int) - (k : Int)).toNat = z.length - k := by omega
          simp only [slcK, Option.map_some, Option.map_none, wpI, lenV, Opd.ev, optI, Int.toNat_natCast, Nat.mul_one, Nat.zero_add, c3]
          apply propext
          exact ⟨fun q => (q.2.2 c1).2, fun q => ⟨c2, fun e => absurd e c1, fun _ => ⟨.inr hs, q⟩⟩⟩
        have cl : ev1 (.clr 1 [.int 0] (.c (.osl h k (z.length - k)))) (X.set h (.cells (ics L) ty_int 1)) = some (.none_, X.set h (.cells (ics (dd z ++ List.replicate (z.length - (dd z).length) 0)) ty_int 1)) := by
          have hb : k + (z.length - k) ≤ L.length := by omega
          have hz0 : (List.replicate (z.length - k) [V.int 0]).flatten = ics (List.replicate (z.length - k) 0) := by
            generalize z.length - k = m
            induction m with
            | zero => rfl
            | succ m ih => rw [List.replicate_succ, List.flatten_cons, ih]; rfl
          have hdz : (ics L).drop (k + (z.length - k)) = [] := List.drop_of_length_le (by rw [ics_len]; omega)
          simp only [ev1, evI, Opd.ev, gX, ics_len, Nat.mul_one]
          rw [if_pos ⟨trivial, hb⟩, hdz, List.append_nil, hz0, ics_take, ht, ← ics_append, ← hkl, List.set_set]
        have sl3 : ∀ K Y, slcK 1 (.osl h 0 z.length) none (some (.lit (.int .i64 (k : Int)))) none Y K = K (.osl h 0 k) Y := fun K Y => by
          have c1 : ¬ ((0 : Int) = (k : Int) ∧ (0 : Int) ≠ 0) := fun h => h.2 rfl
          have c2 : (0 : Int) ≤ 0 ∧ (0 : Int) ≤ (k : Int) ∧ (k : Int) ≤ (z.length : Int) := by omega
          simp only [slcK, Option.map_some, Option.map_none, wpI, lenV, Opd.ev, optI]
          apply propext
          exact ⟨fun q => by simpa using (q.2.2 c1).2, fun q => ⟨c2, fun e => absurd e c1, fun _ => ⟨.inl trivial, by simpa using q⟩⟩⟩
        have b3 : ¬ ((j + 1 : Nat) : Int) < ((z.length - (i + 1) : Nat) : Int) := by omega
        simp [go_sem, s0, s3, s4, s5, gX, b3, sl2, sl3, cl, -Int.natCast_add]
        exact hkl
    · rw [if_neg heq] at hstep
      have hne : (z[i + 1] == z[i]) = false := beq_eq_false_iff_ne.2 heq
      have hne3 : z[i] ≠ z[i + 1] := fun e => heq e.symm
      simp [go_sem, s0, s3, hlt, hl1, hh, w1, w2, b1, b2, g1, g2, hne, -Int.natCast_add]
      refine ⟨by omega, rfl, by simp [go_sem, s0], by simp [go_sem], by omega, ?_⟩
      rw [hstep, hdd, List.take_add_one (i := i + 1), List.getElem?_eq_getElem hlt]; rfl
  · have e : i + 1 = z.length := by omega
    rw [e, List.take_length] at hdd
    have b1 : ¬ ((i + 1 : Nat) : Int) < (z.length : Int) := by omega
    rw [same hdd, hdd]
    simp [go_sem, s0, s3, b1, -Int.natCast_add]
end Go.Proofs.Vm
/-! The members of an agreement. -/
namespace Go.Proofs.Vm
open Go Go.Proofs.Na

def claimsOf (l : List Part) : List Int := (l.map (·.claim)).filter (· != -1)
def memL (a : Agree) : List Int := dd ((claimsOf (flatP a.tiers)).mergeSort fun x y => decide (x ≤ y))
def intsR (l : List Int) : V := if l = [] then .nils else sl false l
theorem dd_nil {l : List Int} : dd l = [] ↔ l = [] := by
  constructor
  · intro h
    match l, h with
    | [], _ => rfl
    | a :: l, h =>
      have := (dd_mem a (a :: l)).2 List.mem_cons_self
      rw [h] at this; cases this
  · intro h; subst h; rfl
theorem memL_mem {a : Agree} {z : Int} : z ∈ memL a ↔ z ≠ -1 ∧ memA a z = true := by
  unfold memL
  rw [dd_mem, List.mem_mergeSort]
  unfold claimsOf memA flatP
  simp only [List.mem_filter, List.mem_map, List.mem_flatMap, List.any_eq_true, beq_iff_eq, bne_iff_ne]
  constructor
  · rintro ⟨⟨p, ⟨t, ht, hp⟩, rfl⟩, h⟩; exact ⟨h, t, ht, p, hp, rfl⟩
  · rintro ⟨h, t, ht, p, hp, rfl⟩; exact ⟨⟨p, ⟨t, ht, hp⟩, rfl⟩, h⟩
theorem intsV_ics : ∀ l : List Int, intsV (ics l) = some l
  | [] => rfl
  | a :: l => by
    have := intsV_ics l
    unfold ics at *
    rw [List.map_cons]
    simp only [intsV, this, Option.map_some]
theorem c_Sort {h : Nat} {z : List Int} {H : List O} (hh : H[h]? = some (.cells (ics z) ty_int 1)) (h0 : z ≠ []) (hz : z.length < 4611686018427387904) (K : V → List O → Prop) :
    Fx D0 fn_slices_Sort_Sint_int [.osl h 0 z.length] H K = K (.tup []) (H.set h (.cells (ics (z.mergeSort fun x y => decide (x ≤ y))) ty_int 1)) := by
  refine Fx_is ((Fx_ext d_slices_Sort_Sint_int).2 ⟨(.tup [], H.set h (.cells (ics (z.mergeSort fun x y => decide (x ≤ y))) ty_int 1)), ?_, rfl, rfl⟩) K
  have hp : 0 < z.length := by rcases z with _ | _ <;> simp at *
  unfold sortE
  simp only [hh, ics_len, Nat.zero_add, Nat.le_refl, hp, hz, and_self, if_true, List.drop_zero]
  rw [List.take_of_length_le (by rw [ics_len]; exact Nat.le_refl _), intsV_ics]
  simp only [List.take_zero, List.nil_append]
  rw [List.drop_of_length_le (by rw [ics_len]; exact Nat.le_refl _), List.append_nil]; rfl
theorem c_Sort_nil {H : List O} (K : V → List O → Prop) : Fx D0 fn_slices_Sort_Sint_int [.nils] H K = K (.tup []) H :=
  Fx_is ((Fx_ext d_slices_Sort_Sint_int).2 ⟨(.tup [], H), rfl, rfl, rfl⟩) K
theorem c_Compact_nil {H : List O} (K : V → List O → Prop) : Fx D0 fn_slices_Compact_Sint_int [.nils] H K = K .nils H := by
  refine Fx_is ?_ K
  refine Fx_of d_slices_Compact_Sint_int ?_
  simp [go_sem, F_slices_Compact_Sint_int]

def outI (l : List Part) (i : Nat) (s : Nat → V) (X : List O) : Prop :=
  s 8 = sl false l ∧ s 9 = .int (l.length : Int) ∧ s 10 = .int (i : Int) ∧ ((claimsOf (l.take i) = [] ∧ s 3 = .nils) ∨
    (claimsOf (l.take i) ≠ [] ∧ ∃ h, s 3 = .osl h 0 (claimsOf (l.take i)).length ∧ X[h]? = some (.cells (ics (claimsOf (l.take i))) ty_int 1)))
theorem claims_take {l : List Part} {i : Nat} {p : Part} (h : l[i]? = some p) : claimsOf (l.take (i + 1)) = if p.claim = -1 then claimsOf (l.take i) else claimsOf (l.take i) ++ [p.claim] := by
  unfold claimsOf
  rw [List.take_add_one, h, List.map_append, List.filter_append]
  by_cases h1 : p.claim = -1
  · simp [h1]
  · simp [h1]
theorem claims_len (l : List Part) : (claimsOf l).length ≤ l.length := by
  unfold claimsOf
  have := List.length_filter_le (fun x => x != -1) (l.map (·.claim))
  rwa [List.length_map] at this
theorem c_members {a : Agree} (hl : a.tiers.length < 4611686018427387904) (hn : (flatP a.tiers).length ≤ 1000000000000) {H : List O} (K : V → List O → Prop) :
    Fx D0 fn_waterfall_members [.agg a.c] H K = K (intsR (memL a)) H := by
  refine Fx_is ?_ K
  refine Fx_ofp (as := [.agg a.c]) d_waterfall_members rfl ?_
  have p1 := fun K X => c_Concat hl hn (H := X) K
  unfold memL
  generalize flatP a.tiers = l at *
  by_cases h0 : l = []
  · subst h0
    have e : intsR (dd ((claimsOf []).mergeSort fun x y => decide (x ≤ y))) = .nils := by simp [claimsOf, dd, intsR]
    have p1' : ∀ K X, Fx D0 fn_slices_Concat_Sapi_Part_api_Part [sl true a.tiers] X K = K .nils X := p1
    rw [e]
    simp [go_sem, F_waterfall_members, leaf_sl, p1']
    refine Bx_up 0 (fun i s X => s 3 = .nils ∧ s 9 = .int 0 ∧ s 10 = .int (i : Int)) ?_ ⟨rfl, rfl, rfl⟩
    rintro i s X hi ⟨s3, s9, s10⟩
    have hi0 : i = 0 := by omega
    subst hi0
    refine wpB_ok ?_
    simp [go_sem, s3, s9, s10, c_Sort_nil, c_Compact_nil]
  have p1' : ∀ K X, Fx D0 fn_slices_Concat_Sapi_Part_api_Part [sl true a.tiers] X K = K (sl false l) X := fun K X => by rw [p1]; unfold partsV; rw [if_neg h0]
  simp [go_sem, F_waterfall_members, leaf_sl, p1', len_sl]
  refine Bx_up l.length (outI l) ?_ ⟨rfl, rfl, rfl, .inl ⟨rfl, rfl⟩⟩
  rintro i s X hi ⟨s8, s9, s10, hor⟩
  refine wpB_ok ?_
  by_cases hlt : i < l.length
  · obtain ⟨p, hp⟩ := some_at hlt
    have w1 := inc (i := i) (by omega)
    have i1 := fun K X => ia_Part (K := K) (H := X) (t := false) (q := .i64) (n := (i : Int)) hp (by omega)
    have i2 := fun K X => lds_Part (K := K) (H := X) (t := false) (k := 0) (m := 5) hp (by omega)
    simp at i1 i2
    have hstep := claims_take hp
    by_cases h1 : p.claim = -1
    · have h1' : (p.claim != -1) = false := by simp [h1]
      rw [if_pos h1] at hstep
      simp [go_sem, s8, s9, s10, hlt, i1, i2, leaf_st, h1', w1, -Int.natCast_add]
      refine ⟨by simp [go_sem, s8], by simp [go_sem, s9], by simp [go_sem], ?_⟩
      rw [hstep]
      rcases hor with ⟨h2, s3⟩ | ⟨h2, h, s3, hX⟩
      · exact .inl ⟨h2, by simp [go_sem, s3]⟩
      · exact .inr ⟨h2, h, by simp [go_sem, s3], by rw [List.getElem?_append_left (flat_lt hX)]; exact hX⟩
    · have h1' : (p.claim != -1) = true := bne_iff_ne.2 h1
      rw [if_neg h1] at hstep
      obtain ⟨Y, hY⟩ : ∃ Y, Y = X ++ [O.cells p.c ty_api_Part 5] := ⟨_, rfl⟩
      have hys : sliceV (Y ++ [O.cells [.int p.claim] ty_int 1]) 1 (.osl Y.length 0 1) = some ([.int p.claim], 1) := by
        rw [slice_own (L := [.int p.claim]) (t := ty_int) (by simp) (by simp)]; simp
      rcases hor with ⟨h2, s3⟩ | ⟨h2, h, s3, hX⟩
      · rw [h2, List.nil_append] at hstep
        have a1 := fun K => app_nil (K := K) (t := ty_int) (bytes := 8) hys (by omega) (by omega) rfl
        have gY : ∀ Z, X ++ O.cells p.c ty_api_Part 5 :: Z = Y ++ Z := fun Z => by rw [hY]; simp
        rw [hY] at a1
        simp at a1
        simp [go_sem, s8, s9, s10, s3, hlt, i1, i2, leaf_st, h1', w1, -Int.natCast_add, a1]
        refine ⟨by simp [go_sem, s8], by simp [go_sem, s9], by simp [go_sem], .inr ⟨by rw [hstep]; simp, X.length + 1 + 1, by simp [go_sem, hstep], ?_⟩⟩
        rw [hstep]
        rw [List.getElem?_append_right (by omega), show X.length + 1 + 1 - X.length = 2 by omega]
        simp [ics]
      · have hXY : (Y ++ [O.cells [.int p.claim] ty_int 1])[h]? = some (.cells (ics (claimsOf (l.take i))) ty_int 1) := by
          rw [hY, List.append_assoc, List.getElem?_append_left (flat_lt hX)]; exact hX
        have hcl := claims_len (l.take i)
        rw [List.length_take] at hcl
        have a1 := fun K => app_own (K := K) (bytes := 8) (n := (claimsOf (l.take i)).length) hys hXY (by rw [ics_len]; omega) (by omega) rfl
        have gY : ∀ Z, X ++ O.cells p.c ty_api_Part 5 :: Z = Y ++ Z := fun Z => by rw [hY]; simp
        rw [hY] at a1
        simp at a1
        simp [go_sem, s8, s9, s10, s3, hlt, i1, i2, leaf_st, h1', w1, -Int.natCast_add, a1]
        refine ⟨by simp [go_sem, s8], by simp [go_sem, s9], by simp [go_sem], .inr ⟨by rw [hstep]; simp, X.length + 1 + 1, by simp [go_sem, hstep], ?_⟩⟩
        rw [hstep]
        rw [List.getElem?_append_right (by simp)]
        simp [ics]
        exact List.take_of_length_le (by simp)
  · have e : l.take i = l := List.take_of_length_le (by omega)
    rw [e] at hor
    rcases hor with ⟨h2, s3⟩ | ⟨h2, h, s3, hX⟩
    · have e2 : intsR (dd ((claimsOf l).mergeSort fun x y => decide (x ≤ y))) = .nils := by simp [h2, dd, intsR]
      rw [e2]
      simp [go_sem, s8, s9, s10, s3, hlt, c_Sort_nil, c_Compact_nil]
    · have hcl := claims_len l
      have hX1 := flat_lt hX
      generalize claimsOf l = z at *
      have q1 := fun K => c_Sort hX h2 (by omega) K
      have q2 := fun K => c_Compact (h := h) (z := z.mergeSort fun x y => decide (x ≤ y)) (H := X.set h (.cells (ics (z.mergeSort fun x y => decide (x ≤ y))) ty_int 1)) (List.getElem?_set_self hX1) (by rw [List.length_mergeSort]; omega) K
      rw [List.length_mergeSort] at q2
      have hne : (z.mergeSort fun x y => decide (x ≤ y)) ≠ [] := fun e => h2 (by have := congrArg List.length e; rw [List.length_mergeSort] at this; exact List.length_eq_zero_iff.1 this)
      generalize (z.mergeSort fun x y => decide (x ≤ y)) = w at *
      have hw : intsR (dd w) = sl false (dd w) := by unfold intsR; rw [if_neg (fun e => hne (dd_nil.1 e))]
      rw [hw]
      simp only [List.set_set] at q2
      have hdl := dd_len w
      have hout := out_own (H := X.set h (O.cells (ics (dd w ++ List.replicate (z.length - (dd w).length) 0)) ty_int 1)) (h := h) (off := 0) (sz := 1) (len := (dd w).length) (List.getElem?_set_self hX1) (by simp [ics_len]) (by rw [List.drop_zero, ics_take]; exact ics_lit _)
      rw [List.drop_zero, Nat.mul_one, ics_take, List.take_left] at hout
      have hsl : V.fsl false (ics (dd w)) (dd w).length = sl false (dd w) := by unfold sl; rw [ics_flat]
      rw [hsl] at hout
      simp [go_sem, s8, s9, s10, s3, hlt, q1, q2, hout]
end Go.Proofs.Vm
/-! The program's check of an agreement. -/
namespace Go.Proofs.Vm
open Go Go.Proofs.Na

/-- The first place, or -1. -/
def idxF {α : Type} (f : α → Bool) : Nat → List α → Int
  | _, [] => -1
  | k, x :: l => if f x = true then (k : Int) else idxF f (k + 1) l
theorem idxF_step {α : Type} {f : α → Bool} {l : List α} {i : Nat} {x : α} (h : l[i]? = some x) : idxF f i (l.drop i) = if f x = true then (i : Int) else idxF f (i + 1) (l.drop (i + 1)) := by
  have h1 := flat_lt h
  rw [List.drop_eq_getElem_cons h1, idxF]
  rw [List.getElem?_eq_getElem h1] at h
  rw [Option.some.inj h]
theorem idxF_any {α : Type} {f : α → Bool} : ∀ {l : List α} {k : Nat}, decide (0 ≤ idxF f k l) = l.any f
  | [], k => by simp [idxF]
  | x :: l, k => by
    rw [idxF, List.any_cons]
    by_cases h : f x = true
    · rw [if_pos h, h]; simp
    · rw [if_neg h, idxF_any]; simp [h]
theorem c_ca1 {ps : List Part} {H : List O} (K : V → List O → Prop) : Fx D0 fn_waterfall_checkAgreement_1 [sl true ps] H K = K (.bool (decide (24 < ps.length))) H := by
  refine Fx_is ?_ K
  refine Fx_ofp (as := [sl true ps]) d_waterfall_checkAgreement_1 rfl ?_
  have e : decide (24 < (ps.length : Int)) = decide (24 < ps.length) := by simp; omega
  simp [go_sem, F_waterfall_checkAgreement_1, len_sl, e]
def ixI (l : List Tier) (i : Nat) (H : List O) (s : Nat → V) (X : List O) : Prop :=
  X = H ∧ s 0 = sl true l ∧ s 1 = .clo fn_waterfall_checkAgreement_1 [] ∧ s 7 = .int (l.length : Int) ∧ s 8 = .int (i : Int) ∧ idxF (fun t : Tier => decide (24 < t.parts.length)) 0 l = idxF (fun t : Tier => decide (24 < t.parts.length)) i (l.drop i)
theorem c_Index24 {l : List Tier} (hl : l.length < 4611686018427387904) {H : List O} (K : V → List O → Prop) :
    Fx D0 fn_slices_IndexFunc_SSapi_Part_Sapi_Part [sl true l, .clo fn_waterfall_checkAgreement_1 []] H K = K (.int (idxF (fun t : Tier => decide (24 < t.parts.length)) 0 l)) H := by
  refine Fx_is ?_ K
  refine Fx_of d_slices_IndexFunc_SSapi_Part_Sapi_Part ?_
  simp [go_sem, F_slices_IndexFunc_SSapi_Part_Sapi_Part, len_sl]
  refine Bx_up l.length (fun i => ixI l i H) ?_ ⟨rfl, rfl, rfl, rfl, rfl, rfl⟩
  rintro i s X hi ⟨rfl, s0, s1, s7, s8, hall⟩
  refine wpB_ok ?_
  by_cases hlt : i < l.length
  · obtain ⟨t, ht⟩ := some_at hlt
    rw [idxF_step ht] at hall
    have w1 := inc (i := i) (by omega)
    have i1 := fun K X => ia_Tier (K := K) (H := X) (t := true) (q := .i64) (n := (i : Int)) ht (by omega)
    have i2 := fun K X => ld_Tier (K := K) (H := X) (t := true) (k := 0) ht rfl
    simp at i1 i2
    have p1 := fun K X => c_ca1 (ps := t.parts) (H := X) K
    by_cases h1 : 24 < t.parts.length
    · simp [h1] at hall p1
      simp [go_sem, s0, s1, s7, s8, hlt, i1, i2, p1, hall]
    · simp [h1] at hall p1
      simp [go_sem, s0, s1, s7, s8, hlt, i1, i2, p1, w1, -Int.natCast_add]
      exact ⟨rfl, by simp [go_sem, s0], by simp [go_sem, s1], by simp [go_sem, s7], by simp [go_sem], hall⟩
  · rw [drop_end (by omega)] at hall
    simp only [idxF] at hall
    simp [go_sem, s0, s1, s7, s8, hlt, hall]
theorem c_Contains24 {l : List Tier} (hl : l.length < 4611686018427387904) {H : List O} (K : V → List O → Prop) :
    Fx D0 fn_slices_ContainsFunc_SSapi_Part_Sapi_Part [sl true l, .clo fn_waterfall_checkAgreement_1 []] H K = K (.bool (l.any fun t => decide (24 < t.parts.length))) H := by
  refine Fx_is ?_ K
  refine Fx_of d_slices_ContainsFunc_SSapi_Part_Sapi_Part ?_
  have p1 := fun K X => c_Index24 hl (H := X) K
  have e := idxF_any (f := fun t : Tier => decide (24 < t.parts.length)) (l := l) (k := 0)
  rw [← e]
  simp [go_sem, F_slices_ContainsFunc_SSapi_Part_Sapi_Part, p1]

instance : Enc Bool := ⟨1, fun b => [.lit (.bool b)], fun _ => rfl⟩
def bcs (l : List Bool) : List V := l.map fun b => V.bool b
theorem bcs_flat (l : List Bool) : l.flatMap (Enc.cells (α := Bool)) = bcs l := by
  induction l with
  | nil => rfl
  | cons a l ih => rw [List.flatMap_cons, ih]; rfl
theorem bcs_len (l : List Bool) : (bcs l).length = l.length := by simp [bcs]
theorem bcs_lit (l : List Bool) : (bcs l).all isLit = true := by simp [bcs, isLit]
theorem frz_bcs {h : Nat} {l : List Bool} {H : List O} (hh : H[h]? = some (.cells (bcs l) ty_bool 1)) : frz H depth (.osl h 0 l.length) = some (sl true l) := by
  have hs := slice_own (sz := 1) (off := 0) (n := l.length) hh (by rw [bcs_len]; omega)
  have he : (bcs l).take (l.length * 1) = bcs l := List.take_of_length_le (by rw [bcs_len]; omega)
  rw [List.drop_zero, he] at hs
  rw [frz_s hs (bcs_lit l)]
  unfold sl frzV; rw [bcs_flat]

/-- First errors of lists that are laid together. -/
theorem firstE_append {α : Type} {f : α → Int} : ∀ {a b : List α}, firstE f (a ++ b) = if firstE f a = 0 then firstE f b else firstE f a
  | [], b => by simp [firstE]
  | x :: a, b => by
    rw [List.cons_append, firstE, firstE]
    by_cases h : f x = 0
    · rw [if_pos h, if_pos h, firstE_append]
    · rw [if_neg h, if_neg h, if_neg h]
theorem firstE_flat {f : Part → Int} : ∀ {l : List Tier}, firstE f (flatP l) = firstE (fun t => firstE f t.parts) l
  | [] => rfl
  | t :: l => by
    have := firstE_flat (f := f) (l := l)
    unfold flatP at *
    rw [List.flatMap_cons, firstE_append, this, firstE]
def marksOf (n : Nat) (prior : List Agree) : List Bool := (List.range n).map fun (z : Nat) => prior.any fun x => memA x (z : Int)
theorem marks_len (n : Nat) (prior : List Agree) : (marksOf n prior).length = n := by simp [marksOf]
theorem marks_at {n z : Nat} {prior : List Agree} (h : z < n) : (marksOf n prior)[z]? = some (prior.any fun x => memA x (z : Int)) := by
  unfold marksOf
  rw [List.getElem?_map, List.getElem?_range h]; rfl
theorem ia_Bool {l : List Bool} {t : Bool} {x : Bool} {q : IntKind} {n : Int} {H : List O} {K : V → List O → Prop} (h : l[n.toNat]? = some x) (h0 : 0 ≤ n) : iaK 1 (sl t l) (.lit (.int q n)) H K = K (ep t l n.toNat 0) H := ia_sl rfl h h0 (by decide)
theorem ld_Bool {l : List Bool} {t : Bool} {x : Bool} {i : Nat} {H : List O} {K : V → List O → Prop} (h : l[i]? = some x) : ldK none (ep t l i 0) H K = K (.bool x) H := ld_ep h rfl

def caI (l : List Part) (marks : List Bool) (P : Part → Int) (i : Nat) (s : Nat → V) (X : List O) : Prop :=
  s 1 = sl true marks ∧ s 19 = sl false l ∧ s 20 = .int (l.length : Int) ∧ s 21 = .int (i : Int) ∧ firstE P l = firstE P (l.drop i)
theorem c_checkAgreement {a : Agree} {n : Nat} {prior : List Agree} {v : V} {H : List O} (hv : frz H depth v = some (sl true (marksOf n prior))) (hl : a.tiers.length < 4611686018427387904) (hcap : ∀ t ∈ a.tiers, ∀ p ∈ t.parts, okX p.cap) (hn : n < 4611686018427387904) (K : V → List O → Prop) :
    Fx D0 fn_waterfall_checkAgreement [.agg a.c, v] H K = K (.int (chkA n prior a)) H := by
  refine Fx_is ?_ K
  have has : [V.agg a.c, v].mapM (frz H depth) = some [.agg a.c, sl true (marksOf n prior)] := by
    rw [mapM_cons', mapM_cons', hv]; rfl
  refine Fx_ofp d_waterfall_checkAgreement has ?_
  unfold chkA
  by_cases h1 : 24 < a.tiers.length
  · have h1' : 24 < (a.tiers.length : Int) := by omega
    simp [go_sem, F_waterfall_checkAgreement, leaf_sl, len_sl, h1, h1']
  have h1' : ¬ 24 < (a.tiers.length : Int) := by omega
  have p1 := fun K X => c_Contains24 hl (H := X) K
  cases h2 : a.tiers.any (fun t => decide (24 < t.parts.length))
  case true =>
    rw [h2] at p1
    simp [go_sem, F_waterfall_checkAgreement, leaf_sl, len_sl, h1, h1', p1]
  rw [h2] at p1
  have hbound : (flatP a.tiers).length ≤ a.tiers.length * 24 := by
    rw [List.any_eq_false] at h2
    have : ∀ l : List Tier, (∀ t ∈ l, t.parts.length ≤ 24) → (flatP l).length ≤ l.length * 24 := by
      intro l
      induction l with
      | nil => intro _; simp [flatP]
      | cons t l ih =>
        intro h
        have h3 := ih fun t ht => h t (List.mem_cons_of_mem _ ht)
        have h4 := h t List.mem_cons_self
        unfold flatP at *
        rw [List.flatMap_cons, List.length_append, List.length_cons]; omega
    exact this _ fun t ht => by have := h2 t ht; simp at this; exact this
  have p2 := fun K X => c_Concat hl (by omega) (H := X) K
  have hfl := firstE_flat (f := chkP n prior) (l := a.tiers)
  have hcap2 : ∀ p ∈ flatP a.tiers, okX p.cap := fun p hp => by
    unfold flatP at hp
    obtain ⟨t, ht, hp⟩ := List.mem_flatMap.1 hp
    exact hcap t ht p hp
  rw [← hfl]
  have hlen : (flatP a.tiers).length ≤ 1000 := by omega
  generalize flatP a.tiers = l at *
  generalize hP : chkP n prior = P
  by_cases h0 : l = []
  · subst h0
    have p2' : ∀ K X, Fx D0 fn_slices_Concat_Sapi_Part_api_Part [sl true a.tiers] X K = K .nils X := p2
    simp [go_sem, F_waterfall_checkAgreement, leaf_sl, len_sl, h1, h1', p1, p2', firstE]
    refine Bx_up 0 (fun i s X => s 20 = .int 0 ∧ s 21 = .int (i : Int)) ?_ ⟨rfl, rfl⟩
    rintro i s X hi ⟨s20, s21⟩
    have hi0 : i = 0 := by omega
    subst hi0
    refine wpB_ok ?_
    simp [go_sem, s20, s21]
  have p2' : ∀ K X, Fx D0 fn_slices_Concat_Sapi_Part_api_Part [sl true a.tiers] X K = K (sl false l) X := fun K X => by rw [p2]; unfold partsV; rw [if_neg h0]
  simp [go_sem, F_waterfall_checkAgreement, leaf_sl, len_sl, h1, h1', p1, p2']
  refine Bx_up l.length (caI l (marksOf n prior) P) ?_ ⟨rfl, rfl, rfl, rfl, rfl⟩
  rintro i s X hi ⟨s1, s19, s20, s21, hall⟩
  refine wpB_ok ?_
  by_cases hlt : i < l.length
  · obtain ⟨p, hp⟩ := some_at hlt
    rw [first_step hp] at hall
    have hx := hcap2 p (List.mem_of_getElem? hp)
    have w1 := inc (i := i) (by omega)
    have i1 := fun K X => ia_Part (K := K) (H := X) (t := false) (q := .i64) (n := (i : Int)) hp (by omega)
    have i2 := fun K X => lds_Part (K := K) (H := X) (t := false) (k := 0) (m := 5) hp (by omega)
    simp at i1 i2
    have q1 := fun K X => c_SignX (H := X) hx K
    have next : ∀ {s' : Nat → V} {X' : List O}, P p = 0 → s' 1 = sl true (marksOf n prior) → s' 19 = sl false l → s' 20 = .int (l.length : Int) → s' 21 = .int ((i + 1 : Nat) : Int) → caI l (marksOf n prior) P (i + 1) s' X' := fun hv a b c d => ⟨a, b, c, d, by rw [hall, if_pos hv]⟩
    by_cases c3 : p.claim = -1
    · cases c4 : p.capped
      · have hv : P p = 21 := by rw [← hP]; unfold chkP; rw [if_neg (by omega), if_pos ⟨c3, c4⟩]
        rw [hv, if_neg (by omega)] at hall
        simp [go_sem, s1, s19, s20, s21, hlt, i1, i2, leaf_st, c3, c4, hall]
      · by_cases c5 : p.cap.q.num.sign < 0
        · have hv : P p = 7 := by rw [← hP]; unfold chkP; rw [if_neg (by omega), if_neg (by simp [c4]), if_pos ⟨c4, c5⟩]
          rw [hv, if_neg (by omega)] at hall
          simp [-Int.sign_neg_iff, go_sem, s1, s19, s20, s21, hlt, i1, i2, leaf_st, c3, c4, c5, q1, hall]
        · have hv : P p = 0 := by rw [← hP]; unfold chkP; rw [if_neg (by omega), if_neg (by simp [c4]), if_neg (fun h => c5 h.2), if_neg (fun h => h.1 c3)]
          simp [-Int.sign_neg_iff, go_sem, s1, s19, s20, s21, hlt, i1, i2, leaf_st, c3, c4, c5, q1, w1, -Int.natCast_add]
          exact next hv (by simp [go_sem, s1]) (by simp [go_sem, s19]) (by simp [go_sem, s20]) (by simp [go_sem])
    · have c3' : (p.claim == -1) = false := by simpa using c3
      by_cases c1 : p.claim < 0
      · have hv : P p = 1 := by rw [← hP]; unfold chkP; rw [if_pos (by omega)]
        rw [hv, if_neg (by omega)] at hall
        simp [go_sem, s1, s19, s20, s21, hlt, i1, i2, leaf_st, c3', c1, hall]
      by_cases c2 : (n : Int) ≤ p.claim
      · have hv : P p = 1 := by rw [← hP]; unfold chkP; rw [if_pos (by omega)]
        rw [hv, if_neg (by omega)] at hall
        simp [go_sem, s1, s19, s20, s21, hlt, i1, i2, leaf_st, len_sl, marks_len, c3', c1, c2, hall]
      have hm := marks_at (n := n) (z := p.claim.toNat) (prior := prior) (by omega)
      rw [show ((p.claim.toNat : Nat) : Int) = p.claim by omega] at hm
      have j1 := fun K X => ia_Bool (K := K) (H := X) (t := true) (q := .i64) (n := p.claim) hm (by omega)
      have j2 := fun K X => ld_Bool (K := K) (H := X) (t := true) hm
      have hpr : (prior.any (memA · p.claim) = true) = ((prior.any fun x => memA x p.claim) = true) := rfl
      by_cases c5 : p.capped = true ∧ p.cap.q.num.sign < 0
      · have hv : P p = 7 := by rw [← hP]; unfold chkP; rw [if_neg (by omega), if_neg (fun h => c3 h.1), if_pos c5]
        rw [hv, if_neg (by omega)] at hall
        simp [-Int.sign_neg_iff, go_sem, s1, s19, s20, s21, hlt, i1, i2, leaf_st, len_sl, marks_len, c3', c1, c2, c5.1, c5.2, q1, hall]
      · cases c6 : prior.any (memA · p.claim)
        · have hv : P p = 0 := by rw [← hP]; unfold chkP; rw [if_neg (by omega), if_neg (fun h => c3 h.1), if_neg c5, if_neg (by simp only [c6]; simp)]
          rw [c6] at j2
          cases c4 : p.capped
          · simp [go_sem, s1, s19, s20, s21, hlt, i1, i2, j1, j2, leaf_st, len_sl, marks_len, c3', c1, c2, c4, w1, -Int.natCast_add]
            exact next hv (by simp [go_sem, s1]) (by simp [go_sem, s19]) (by simp [go_sem, s20]) (by simp [go_sem])
          · have c5 : ¬ p.cap.q.num.sign < 0 := fun h => c5 ⟨c4, h⟩
            simp [-Int.sign_neg_iff, go_sem, s1, s19, s20, s21, hlt, i1, i2, j1, j2, leaf_st, len_sl, marks_len, c3', c1, c2, c4, c5, q1, w1, -Int.natCast_add]
            exact next hv (by simp [go_sem, s1]) (by simp [go_sem, s19]) (by simp [go_sem, s20]) (by simp [go_sem])
        · have hv : P p = 20 := by rw [← hP]; unfold chkP; rw [if_neg (by omega), if_neg (fun h => c3 h.1), if_neg c5, if_pos ⟨c3, c6⟩]
          rw [c6] at j2
          rw [hv, if_neg (by omega)] at hall
          cases c4 : p.capped
          · simp [go_sem, s1, s19, s20, s21, hlt, i1, i2, j1, j2, leaf_st, len_sl, marks_len, c3', c1, c2, c4, hall]
          · have c5 : ¬ p.cap.q.num.sign < 0 := fun h => c5 ⟨c4, h⟩
            simp [-Int.sign_neg_iff, go_sem, s1, s19, s20, s21, hlt, i1, i2, j1, j2, leaf_st, len_sl, marks_len, c3', c1, c2, c4, c5, q1, hall]
  · rw [drop_end (by omega)] at hall
    simp only [firstE] at hall
    simp [go_sem, s1, s19, s20, s21, hlt, hall]
end Go.Proofs.Vm
/-! The program's check of an estate. -/
namespace Go.Proofs.Vm
open Go Go.Proofs.Na

theorem firstE_zero {α : Type} {f : α → Int} : ∀ {l : List α}, firstE f l = 0 → ∀ x ∈ l, f x = 0
  | [], _, x, hx => by cases hx
  | y :: l, h, x, hx => by
    rw [firstE] at h
    by_cases hy : f y = 0
    · rw [if_pos hy] at h
      rcases List.mem_cons.1 hx with rfl | hx
      · exact hy
      · exact firstE_zero h x hx
    · rw [if_neg hy] at h; exact absurd h hy
theorem chkP_range {n : Nat} {prior : List Agree} {p : Part} (h : chkP n prior p = 0) : -1 ≤ p.claim ∧ p.claim < n := by
  unfold chkP at h
  by_cases h1 : p.claim < -1 ∨ (n : Int) ≤ p.claim
  · rw [if_pos h1] at h; omega
  · omega
theorem memL_range {n : Nat} {prior : List Agree} {a : Agree} (h : chkA n prior a = 0) {z : Int} (hz : z ∈ memL a) : 0 ≤ z ∧ z < n := by
  unfold chkA at h
  split at h
  · omega
  · split at h
    · omega
    · obtain ⟨h1, h2⟩ := memL_mem.1 hz
      unfold memA at h2
      simp only [List.any_eq_true, beq_iff_eq] at h2
      obtain ⟨t, ht, p, hp, rfl⟩ := h2
      have := chkP_range (firstE_zero (firstE_zero h t ht) p hp)
      omega
theorem chkA_small {n : Nat} {prior : List Agree} {a : Agree} (h : chkA n prior a = 0) : (flatP a.tiers).length ≤ a.tiers.length * 24 ∧ a.tiers.length ≤ 24 := by
  unfold chkA at h
  split at h
  · omega
  · split at h
    · omega
    · rename_i h1 h2
      refine ⟨?_, by omega⟩
      have h2 : a.tiers.any (fun t => decide (24 < t.parts.length)) = false := by simpa using h2
      rw [List.any_eq_false] at h2
      have : ∀ l : List Tier, (∀ t ∈ l, t.parts.length ≤ 24) → (flatP l).length ≤ l.length * 24 := by
        intro l
        induction l with
        | nil => intro _; simp [flatP]
        | cons t l ih =>
          intro h
          have h3 := ih fun t ht => h t (List.mem_cons_of_mem _ ht)
          have h4 := h t List.mem_cons_self
          unfold flatP at *
          rw [List.flatMap_cons, List.length_append, List.length_cons]; omega
      exact this _ fun t ht => by have := h2 t ht; simp at this; exact this

theorem memL_len (a : Agree) : (memL a).length ≤ (flatP a.tiers).length := by
  unfold memL
  have h1 := dd_len ((claimsOf (flatP a.tiers)).mergeSort fun x y => decide (x ≤ y))
  rw [List.length_mergeSort] at h1
  exact Nat.le_trans h1 (claims_len _)
theorem len_intsR {l : List Int} : lenV (intsR l) = some l.length := by
  unfold intsR; split
  · rename_i h; subst h; rfl
  · rfl
theorem ia_intsR {l : List Int} {x : Int} {i : Nat} {q : IntKind} {H : List O} {K : V → List O → Prop} (h : l[i]? = some x) : iaK 1 (intsR l) (.lit (.int q (i : Int))) H K = K (ep false l i 0) H := by
  have hne : l ≠ [] := fun e => by rw [e] at h; cases h
  unfold intsR
  rw [if_neg hne]
  exact ia_sl (α := Int) (t := false) rfl (n := (i : Int)) h (by omega) (by decide)
theorem ld_Int {l : List Int} {t : Bool} {x : Int} {i : Nat} {H : List O} {K : V → List O → Prop} (h : l[i]? = some x) : ldK none (ep t l i 0) H K = K (.int x) H := ld_ep h rfl
/-- The marks of some agreements, and of some members of one more. -/
def marks2 (n : Nat) (prior : List Agree) (m : List Int) : List Bool := (List.range n).map fun (z : Nat) => (prior.any fun x => memA x (z : Int)) || m.contains (z : Int)
theorem marks2_nil (n : Nat) (prior : List Agree) : marks2 n prior [] = marksOf n prior := by simp [marks2, marksOf]
theorem marks2_len (n : Nat) (prior : List Agree) (m : List Int) : (marks2 n prior m).length = n := by simp [marks2]
theorem marks2_set {n : Nat} {prior : List Agree} {m : List Int} {z : Int} (h0 : 0 ≤ z) (h : z < n) : (marks2 n prior m).set z.toNat true = marks2 n prior (m ++ [z]) := by
  apply List.ext_getElem?
  intro i
  rw [List.getElem?_set, marks2_len]
  unfold marks2
  simp only [List.getElem?_map]
  by_cases hi : i < n
  · rw [List.getElem?_range hi]
    by_cases e : z.toNat = i
    · rw [if_pos e, if_pos (by omega)]
      have : (i : Int) = z := by omega
      simp [this]
    · rw [if_neg e]
      have : ¬ (i : Int) = z := by omega
      simp [this]
  · rw [List.getElem?_eq_none (l := List.range n) (by simpa using hi), if_neg (by omega)]; rfl
theorem marks2_all {n : Nat} {prior : List Agree} {a : Agree} : marks2 n prior (memL a) = marksOf n (prior ++ [a]) := by
  unfold marks2 marksOf
  apply List.map_congr_left
  intro z _
  rw [List.any_append]
  congr 1
  rw [Bool.eq_iff_iff]
  simp only [List.contains_iff_mem, memL_mem, List.any_cons, List.any_nil, Bool.or_false]
  constructor
  · exact fun h => h.2
  · exact fun h => ⟨by omega, h⟩
theorem bcs_set (l : List Bool) (k : Nat) (b : Bool) : (bcs l).set k (.bool b) = bcs (l.set k b) := by simp [bcs, List.map_set]
theorem take_snoc {α : Type} {l : List α} {i : Nat} {x : α} (h : l[i]? = some x) : l.take (i + 1) = l.take i ++ [x] := by rw [List.take_add_one, h]; rfl

def wcI1 (e : Estate) (i : Nat) (s : Nat → V) (X : List O) : Prop :=
  ∃ Y, X = .cells e.c ty_api_Estate 5 :: Y ∧ s 1 = .optr 0 0 ∧ s 28 = sl true e.claims ∧ s 29 = .int (e.claims.length : Int) ∧ s 30 = .int (i : Int) ∧ firstE chkC e.claims = firstE chkC (e.claims.drop i)
def wcI2 (e : Estate) (h : Nat) (i : Nat) (s : Nat → V) (X : List O) : Prop :=
  s 5 = .osl h 0 e.claims.length ∧ s 63 = sl true e.agrees ∧ s 64 = .int (e.agrees.length : Int) ∧ s 65 = .int (i : Int) ∧ X[h]? = some (.cells (bcs (marksOf e.claims.length (e.agrees.take i))) ty_bool 1) ∧
    chkAs e.claims.length [] e.agrees = chkAs e.claims.length (e.agrees.take i) (e.agrees.drop i)
def wcI3 (e : Estate) (a : Agree) (h : Nat) (i j : Nat) (s : Nat → V) (X : List O) : Prop :=
  s 5 = .osl h 0 e.claims.length ∧ s 63 = sl true e.agrees ∧ s 64 = .int (e.agrees.length : Int) ∧ s 65 = .int (i : Int) ∧ s 76 = intsR (memL a) ∧ s 77 = .int ((memL a).length : Int) ∧ s 78 = .int (j : Int) ∧
    X[h]? = some (.cells (bcs (marks2 e.claims.length (e.agrees.take i) ((memL a).take j))) ty_bool 1)
theorem c_CheckE {e : Estate} (ok : okE e) {H : List O} (K : V → List O → Prop) : Fx D0 fn_waterfall_Check [.agg e.c] H K = K (.int (chkE e)) H := by
  have lc := ok.lc
  have la := ok.la
  refine Fx_is ?_ K
  refine Fx_ofp (as := [.agg e.c]) d_waterfall_Check rfl ?_
  unfold chkE
  by_cases h1 : 24 < e.claims.length
  · have h1' : 24 < (e.claims.length : Int) := by omega
    simp [go_sem, F_waterfall_Check, len_sl, leaf_st, leaf_sl, h1, h1']
  have h1' : ¬ 24 < (e.claims.length : Int) := by omega
  by_cases h2 : 12 < e.agrees.length
  · have h2' : 12 < (e.agrees.length : Int) := by omega
    simp [go_sem, F_waterfall_Check, len_sl, leaf_st, leaf_sl, h1, h1', h2, h2']
  have h2' : ¬ 12 < (e.agrees.length : Int) := by omega
  have p1 := fun K X => c_SignX (H := X) ok.cash K
  by_cases h3 : e.cash.q.num.sign < 0
  · simp [-Int.sign_neg_iff, go_sem, F_waterfall_Check, len_sl, leaf_st, leaf_sl, h1, h1', h2, h2', p1, h3]
  simp [-Int.sign_neg_iff, go_sem, F_waterfall_Check, len_sl, leaf_st, leaf_sl, h1, h1', h2, h2', p1, h3]
  refine Bx_up e.claims.length (wcI1 e) ?_ ⟨[], rfl, rfl, rfl, rfl, rfl, rfl⟩
  rintro i s X hi ⟨Y, rfl, s1, s28, s29, s30, hall⟩
  refine wpB_ok ?_
  by_cases hlt : i < e.claims.length
  · obtain ⟨c, hc⟩ := some_at hlt
    have hx := ok.claims c (List.mem_of_getElem? hc)
    have w1 := inc (i := i) (by omega)
    have i1 := fun K X => ia_Claim (K := K) (H := X) (t := true) (q := .i64) (n := (i : Int)) hc (by omega)
    have i2 := fun K X => lds_Claim (K := K) (H := X) (t := true) (k := 0) (m := 5) hc (by omega)
    simp at i1 i2
    have p2 := fun K X => c_SignX (H := X) hx K
    have next : firstE chkC e.claims = if chkC c = 0 then firstE chkC (e.claims.drop (i + 1)) else chkC c := by rw [hall, first_step hc]
    clear hall
    by_cases c1 : c.holder < -1 ∨ 8 ≤ c.holder
    · have hv : chkC c = 19 := by unfold chkC; rw [if_pos c1]
      rw [hv, if_neg (by omega)] at next
      by_cases c1a : c.holder < -1
      · simp [go_sem, s1, s28, s29, s30, hlt, i1, i2, leaf_st, c1a, next]
      · have c1b : 8 ≤ c.holder := by omega
        simp [go_sem, s1, s28, s29, s30, hlt, i1, i2, leaf_st, c1a, c1b, next]
    have c1a : ¬ c.holder < -1 := by omega
    have c1b : ¬ 8 ≤ c.holder := by omega
    by_cases c2 : c.rank < 0 ∨ 7 < c.rank
    · have hv : chkC c = 1 := by unfold chkC; rw [if_neg c1, if_pos c2]
      rw [hv, if_neg (by omega)] at next
      by_cases c2a : c.rank < 0
      · simp [go_sem, s1, s28, s29, s30, hlt, i1, i2, leaf_st, c1a, c1b, c2a, next]
      · have c2b : 7 < c.rank := by omega
        simp [go_sem, s1, s28, s29, s30, hlt, i1, i2, leaf_st, c1a, c1b, c2a, c2b, next]
    have c2a : ¬ c.rank < 0 := by omega
    have c2b : ¬ 7 < c.rank := by omega
    by_cases c3 : c.amount.q.num.sign < 0
    · have hv : chkC c = 7 := by unfold chkC; rw [if_neg c1, if_neg c2, if_pos c3]
      rw [hv, if_neg (by omega)] at next
      simp [-Int.sign_neg_iff, go_sem, s1, s28, s29, s30, hlt, i1, i2, leaf_st, c1a, c1b, c2a, c2b, p2, c3, next]
    · have hv : chkC c = 0 := by unfold chkC; rw [if_neg c1, if_neg c2, if_neg c3]
      rw [if_pos hv] at next
      simp [-Int.sign_neg_iff, go_sem, s1, s28, s29, s30, hlt, i1, i2, leaf_st, c1a, c1b, c2a, c2b, p2, c3, w1, -Int.natCast_add]
      exact ⟨_, rfl, by simp [go_sem, s1], by simp [go_sem, s28], by simp [go_sem, s29], by simp [go_sem], next⟩
  · rw [drop_end (by omega)] at hall
    simp only [firstE] at hall
    rw [hall, if_pos rfl]
    have b1 : (e.claims.length : Int) ≤ 140737488355328 := by omega
    have hrep : List.replicate e.claims.length (V.lit (.bool false)) = bcs (marksOf e.claims.length []) := by
      unfold bcs marksOf
      rw [List.map_map]
      symm
      rw [List.eq_replicate_iff]
      refine ⟨by simp, fun b hb => ?_⟩
      obtain ⟨z, _, rfl⟩ := List.mem_map.1 hb
      rfl
    simp [go_sem, s1, s28, s29, s30, hlt, len_sl, b1]
    refine Bx_up e.agrees.length (wcI2 e (Y.length + 1)) ?_ ⟨by simp [go_sem], by simp [go_sem], by simp [go_sem], by simp [go_sem], by rw [List.take_zero, ← hrep]; simp, rfl⟩
    clear s1 s28 s29 s30 hlt hi i hall hrep
    clear s
    generalize Y.length + 1 = h
    rintro i s X hi ⟨s5, s63, s64, s65, hX, hall2⟩
    refine wpB_ok ?_
    by_cases hlt : i < e.agrees.length
    · obtain ⟨a, ha⟩ := some_at hlt
      have ham := List.mem_of_getElem? ha
      have hX1 := flat_lt hX
      rw [chkAs_step ha] at hall2
      have w1 := inc (i := i) (by omega)
      have i1 := fun K X => ia_Agree (K := K) (H := X) (t := true) (q := .i64) (n := (i : Int)) ha (by omega)
      have i2 := fun K X => lds_Agree (K := K) (H := X) (t := true) (k := 0) (m := 1) ha (by omega)
      simp at i1 i2
      have hX' : (X ++ [O.cells a.c ty_api_Agreement 1])[h]? = some (.cells (bcs (marksOf e.claims.length (e.agrees.take i))) ty_bool 1) := by rw [List.getElem?_append_left hX1]; exact hX
      have hfr := frz_bcs hX'
      rw [marks_len] at hfr
      have okt := ok.lt a ham
      have hbig := okt.1
      have p2 := fun K => c_checkAgreement (a := a) hfr (by omega) (ok.parts a ham) lc K
      by_cases hv : chkA e.claims.length (e.agrees.take i) a = 0
      · rw [if_pos hv] at hall2
        rw [hv] at p2
        have hsm := chkA_small hv
        have p3 := fun K X => c_members (a := a) (by omega) (by omega) (H := X) K
        simp [go_sem, s5, s63, s64, s65, hlt, i1, i2, leaf_sl, p2, p3, len_intsR]
        refine Bx_up (memL a).length (wcI3 e a h i) ?_ ⟨by simp [go_sem, s5], by simp [go_sem, s63], by simp [go_sem, s64], by simp [go_sem, s65], by simp [go_sem], by simp [go_sem], by simp [go_sem], by rw [List.take_zero, marks2_nil]; exact hX'⟩
        clear s5 s63 s64 s65 hX hX' hfr hX1 p2
        clear X s
        rintro j s X hj ⟨s5, s63, s64, s65, s76, s77, s78, hX⟩
        refine wpB_ok ?_
        have hX1 := flat_lt hX
        by_cases hlt2 : j < (memL a).length
        · obtain ⟨z, hz⟩ := some_at hlt2
          have hml := memL_len a
          have w2 := inc (i := j) (by omega)
          have hr := memL_range hv (List.mem_of_getElem? hz)
          have j1 := fun K X => ia_intsR (K := K) (H := X) (q := .i64) hz
          have j2 := fun K X => ld_Int (K := K) (H := X) (t := false) hz
          have b3 : z.toNat < e.claims.length := by omega
          simp [go_sem, s5, s63, s64, s65, s76, s77, s78, hlt2, j1, j2, hX, hr.1, hr.2, b3, w2, -Int.natCast_add]
          refine ⟨by rw [bcs_len, marks2_len]; omega, by simp [go_sem, s5], by simp [go_sem, s63], by simp [go_sem, s64], by simp [go_sem, s65], by simp [go_sem, s76], by simp [go_sem, s77], by simp [go_sem], ?_⟩
          rw [List.getElem?_set_self hX1, take_snoc hz, ← marks2_set hr.1 hr.2, ← bcs_set, ← set_eq _ _ (by rw [bcs_len, marks2_len]; omega)]; simp
        · have et : (memL a).take j = memL a := List.take_of_length_le (by omega)
          rw [et, marks2_all, ← take_snoc ha] at hX
          simp [go_sem, s5, s63, s64, s65, s76, s77, s78, hlt2, hlt, w1, -Int.natCast_add]
          exact ⟨by simp [go_sem, s5], by simp [go_sem, s63], by simp [go_sem, s64], by simp [go_sem], hX, hall2⟩
      · rw [if_neg hv] at hall2
        have hv' : (chkA e.claims.length (e.agrees.take i) a != 0) = true := bne_iff_ne.2 hv
        simp [go_sem, s5, s63, s64, s65, hlt, i1, i2, leaf_sl, p2, hv', hall2]
    · rw [drop_end (by omega)] at hall2
      simp only [chkAs] at hall2
      simp [go_sem, s5, s63, s64, s65, hlt, hall2]
end Go.Proofs.Vm
/-! Reckoning with the arithmetic as what is known of it. -/
namespace Go.Proofs.Vm
open Go Go.Proofs.Na

abbrev Ext := List V → List O → Option (V × List O)
def rp : V → Option (Bool × List UInt8 × List UInt8)
  | .agg [.lit (.bool n), .lit (.string a), .lit (.string b)] => if a.data.toList.length ≤ 2000000 ∧ b.data.toList.length ≤ 2000000 then some (n, a.data.toList, b.data.toList) else none
  | _ => none
theorem rp_some {v : V} {n : Bool} {a b : List UInt8} (h : rp v = some (n, a, b)) : v = rw_ n a b ∧ a.length ≤ 2000000 ∧ b.length ≤ 2000000 := by
  unfold rp at h
  split at h
  · split at h
    · rename_i hs
      cases h
      exact ⟨rfl, hs⟩
    · cases h
  · cases h
def e1 (f : Rat → V) : Ext
  | [x], H => match rp x with
    | some (n, a, b) => some (f (dec n a b), H)
    | none => none
  | _, _ => none
def e2 (f : Rat → Rat → V) : Ext
  | [x, y], H => match rp x, rp y with
    | some (n, a, b), some (m, c, d) => some (f (dec n a b) (dec m c d), H)
    | _, _ => none
  | _, _ => none
def eI : Ext
  | [.lit (.int .i64 n)], H => if -9223372036854775808 ≤ n ∧ n ≤ 9223372036854775807 then some (rv (n : Rat), H) else none
  | _, _ => none
def sp : V → Option (List UInt8)
  | .lit (.string a) => if a.data.toList.length ≤ 16777216 then some a.data.toList else none
  | _ => none
theorem sp_some {v : V} {a : List UInt8} (h : sp v = some a) : v = st a ∧ a.length ≤ 16777216 := by
  unfold sp at h
  split at h
  · split at h
    · rename_i hs
      cases h
      exact ⟨rfl, hs⟩
    · cases h
  · cases h
def n2 (f : List UInt8 → List UInt8 → V) : Ext
  | [x, y], H => match sp x, sp y with
    | some a, some b => some (f a b, H)
    | _, _ => none
  | _, _ => none
def n1 (f : List UInt8 → V) : Ext
  | [x], H => match sp x with
    | some a => some (f a, H)
    | _ => none
  | _, _ => none
def eV : Ext
  | [x], H => match rp x with
    | some (n, a, b) => some (.bool (validB n a b), H)
    | none => none
  | _, _ => none
/-- Known of the packages rational and natural. -/
def E1 (f : FuncId) : Option Ext :=
  if f = fn_rational_Add then some (e2 fun p q => rv (p + q))
  else if f = fn_rational_Subtract then some (e2 fun p q => rv (p - q))
  else if f = fn_rational_Multiply then some (e2 fun p q => rv (p * q))
  else if f = fn_rational_Divide then some (e2 fun p q => if q = 0 then .tup [rz, .bool false] else .tup [rv (p / q), .bool true])
  else if f = fn_rational_Compare then some (e2 fun p q => .int (cmpR p q))
  else if f = fn_rational_Min then some (e2 fun p q => rv (if p ≤ q then p else q))
  else if f = fn_rational_Max then some (e2 fun p q => rv (if q ≤ p then p else q))
  else if f = fn_rational_Negate then some (e1 fun p => rv (-p))
  else if f = fn_rational_Sign then some (e1 fun p => .int p.num.sign)
  else if f = fn_rational_clean then some (e1 fun p => rv p)
  else if f = fn_rational_Int then some eI
  else if f = fn_rational_Valid then some eV
  else if f = fn_natural_Add then some (n2 fun a b => st (nbl (nv a + nv b)))
  else if f = fn_natural_Multiply then some (n2 fun a b => st (nbl (nv a * nv b)))
  else if f = fn_natural_GCD then some (n2 fun a b => st (nbl (Nat.gcd (nv a) (nv b))))
  else if f = fn_natural_Compare then some (n2 fun a b => .int (sg (nv a) (nv b)))
  else if f = fn_natural_Subtract then some (n2 fun a b => if nv b ≤ nv a then .tup [st (nbl (nv a - nv b)), .bool true] else .tup [st [], .bool false])
  else if f = fn_natural_Divide then some (n2 fun a b => if nv b = 0 then .tup [st [], st [], .bool false] else .tup [st (nbl (nv a / nv b)), st (nbl (nv a % nv b)), .bool true])
  else if f = fn_natural_Normalize then some (n1 fun a => st (tidy a))
  else none
end Go.Proofs.Vm
/-! What is known of the arithmetic holds. -/
namespace Go.Proofs.Vm
open Go Go.Proofs.Na

section
variable {f : FuncId} {args : List V} {H : List O} {r : V × List O}
theorem e1_ok {F : Rat → V} (h : ∀ {n a b}, a.length ≤ 2000000 → b.length ≤ 2000000 → ∀ {H : List O} (K : V → List O → Prop), Fx D0 f [rw_ n a b] H K = K (F (dec n a b)) H) (hg : e1 F args H = some r) : Fx D0 f args H fun x X => (x, X) = r := by
  unfold e1 at hg
  split at hg
  · split at hg
    · rename_i n a b hx
      cases hg
      obtain ⟨rfl, ha, hb⟩ := rp_some hx
      rw [h ha hb]
    · cases hg
  · cases hg
theorem e2_ok {F : Rat → Rat → V} (h : ∀ {n m a b c d}, a.length ≤ 2000000 → b.length ≤ 2000000 → c.length ≤ 2000000 → d.length ≤ 2000000 → ∀ {H : List O} (K : V → List O → Prop), Fx D0 f [rw_ n a b, rw_ m c d] H K = K (F (dec n a b) (dec m c d)) H) (hg : e2 F args H = some r) : Fx D0 f args H fun x X => (x, X) = r := by
  unfold e2 at hg
  split at hg
  · split at hg
    · rename_i n a b m c d hx hy
      cases hg
      obtain ⟨rfl, ha, hb⟩ := rp_some hx
      obtain ⟨rfl, hc, hd⟩ := rp_some hy
      rw [h ha hb hc hd]
    · cases hg
  · cases hg
theorem n1_ok {F : List UInt8 → V} (h : ∀ {a}, a.length ≤ 16777216 → ∀ {H : List O} (K : V → List O → Prop), Fx D0 f [st a] H K = K (F a) H) (hg : n1 F args H = some r) : Fx D0 f args H fun x X => (x, X) = r := by
  unfold n1 at hg
  split at hg
  · split at hg
    · rename_i a hx
      cases hg
      obtain ⟨rfl, ha⟩ := sp_some hx
      rw [h ha]
    · cases hg
  · cases hg
theorem n2_ok {F : List UInt8 → List UInt8 → V} (h : ∀ {a b}, a.length ≤ 16777216 → b.length ≤ 16777216 → ∀ {H : List O} (K : V → List O → Prop), Fx D0 f [st a, st b] H K = K (F a b) H) (hg : n2 F args H = some r) : Fx D0 f args H fun x X => (x, X) = r := by
  unfold n2 at hg
  split at hg
  · split at hg
    · rename_i a b hx hy
      cases hg
      obtain ⟨rfl, ha⟩ := sp_some hx
      obtain ⟨rfl, hb⟩ := sp_some hy
      rw [h ha hb]
    · cases hg
  · cases hg
end
theorem eI_ok {args : List V} {H : List O} {r : V × List O} (hg : eI args H = some r) : Fx D0 fn_rational_Int args H fun x X => (x, X) = r := by
  unfold eI at hg
  split at hg
  · split at hg
    · rename_i hn
      cases hg
      have := fun K => c_Int (H := H) hn.1 hn.2 K
      simp only [V.int] at this
      rw [this]
    · cases hg
  · cases hg
theorem eV_ok {args : List V} {H : List O} {r : V × List O} (hg : eV args H = some r) : Fx D0 fn_rational_Valid args H fun x X => (x, X) = r := by
  unfold eV at hg
  split at hg
  · split at hg
    · rename_i n a b hx
      cases hg
      obtain ⟨rfl, ha, hb⟩ := rp_some hx
      rw [c_Valid (by omega) (by omega)]
    · cases hg
  · cases hg
theorem subs : Subs D0 E1 := by
  intro f g args H r hf hg
  by_cases h0 : f = fn_rational_Add
  · subst h0; cases hf; exact e2_ok (fun ha hb hc hd _ K => c_AddR ha hb hc hd K) hg
  by_cases h1 : f = fn_rational_Subtract
  · subst h1; cases hf; exact e2_ok (fun ha hb hc hd _ K => c_SubtractR ha hb hc hd K) hg
  by_cases h2 : f = fn_rational_Multiply
  · subst h2; cases hf; exact e2_ok (fun ha hb hc hd _ K => c_MultiplyR ha hb hc hd K) hg
  by_cases h3 : f = fn_rational_Divide
  · subst h3; cases hf; exact e2_ok (fun ha hb hc hd _ K => c_DivideR ha hb hc hd K) hg
  by_cases h4 : f = fn_rational_Compare
  · subst h4; cases hf; exact e2_ok (fun ha hb hc hd _ K => c_CompareR ha hb hc hd K) hg
  by_cases h5 : f = fn_rational_Min
  · subst h5; cases hf; exact e2_ok (fun ha hb hc hd _ K => c_MinR ha hb hc hd K) hg
  by_cases h6 : f = fn_rational_Max
  · subst h6; cases hf; exact e2_ok (fun ha hb hc hd _ K => c_MaxR ha hb hc hd K) hg
  by_cases h7 : f = fn_rational_Negate
  · subst h7; cases hf; exact e1_ok (fun ha hb _ K => c_Negate ha hb K) hg
  by_cases h8 : f = fn_rational_Sign
  · subst h8; cases hf; exact e1_ok (fun ha hb _ K => c_Sign (by omega) (by omega) K) hg
  by_cases h9 : f = fn_rational_clean
  · subst h9; cases hf; exact e1_ok (fun ha hb _ K => c_clean (by omega) (by omega) K) hg
  by_cases h10 : f = fn_rational_Int
  · subst h10; cases hf; exact eI_ok hg
  by_cases h11 : f = fn_rational_Valid
  · subst h11; cases hf; exact eV_ok hg
  by_cases h12 : f = fn_natural_Add
  · subst h12; cases hf; exact n2_ok (fun ha hb _ K => c_Add ha hb K) hg
  by_cases h13 : f = fn_natural_Multiply
  · subst h13; cases hf; exact n2_ok (fun ha hb _ K => c_Multiply ha hb K) hg
  by_cases h14 : f = fn_natural_GCD
  · subst h14; cases hf; exact n2_ok (fun ha hb _ K => c_GCD ha hb K) hg
  by_cases h15 : f = fn_natural_Compare
  · subst h15; cases hf; exact n2_ok (fun ha hb _ K => c_CompareN ha hb K) hg
  by_cases h16 : f = fn_natural_Subtract
  · subst h16; cases hf; exact n2_ok (fun ha hb _ K => c_Subtract ha hb K) hg
  by_cases h17 : f = fn_natural_Divide
  · subst h17; cases hf; exact n2_ok (fun ha hb _ K => c_Divide ha hb K) hg
  by_cases h18 : f = fn_natural_Normalize
  · subst h18; cases hf; exact n1_ok (fun ha _ K => c_Normalize (by omega) K) hg
  exact absurd hf (by unfold E1; simp only [h0, h1, h2, h3, h4, h5, h6, h7, h8, h9, h10, h11, h12, h13, h14, h15, h16, h17, h18, if_false]; simp)
/-- A function's answer, reckoned. -/
theorem Fx_run {n : Nat} {f : FuncId} {args : List V} {H : List O} {r : V} {H' : List O} (h : run (over D0 E1) n f args H = some (r, H')) (K : V → List O → Prop) : Fx D0 f args H K = K r H' := by
  refine Fx_is ?_ K
  exact Fx_mono (sim_run subs n h) fun x X e => by cases e; exact ⟨rfl, rfl⟩
end Go.Proofs.Vm
/-! The chapter's examples: the groups; Solve at the first one, reckoned. -/
namespace Go.Proofs.Vm
open Go Go.Proofs.Na

def theV : Option (V × List O) → V
  | some (v, _) => v
  | none => .none_
def gA : V := theV (run (over D0 E1) 200 fn_law19_circle [.int 0, .bool false] [])
def gB : V := theV (run (over D0 E1) 200 fn_law19_circle [.int 3, .bool true] [])
def fine : Option (V × List O) → Bool
  | some (_, []) => true
  | _ => false
theorem fine_ok {o : Option (V × List O)} (h : fine o = true) : o = some (theV o, []) := by
  unfold fine at h
  split at h
  · rfl
  · cases h
theorem run_gA : run (over D0 E1) 200 fn_law19_circle [.int 0, .bool false] [] = some (gA, []) := fine_ok (by kernel_rfl)
theorem run_gB : run (over D0 E1) 200 fn_law19_circle [.int 3, .bool true] [] = some (gB, []) := fine_ok (by kernel_rfl)
/-- No error, and this money. -/
def good (x y : Int) : Option (V × List O) → Bool
  | some (.tup [.agg [a, b, c, d, e, f, g, h], .lit (.int .i64 n)], []) => decide (n = 0) && ([a, b, c, d, e, f, g, h].all V.leaf) && (match run (over D0 E1) 200 fn_law19_money [.agg [a, b, c, d, e, f, g, h], .int x, .int y] [] with
    | some (.lit (.bool t), []) => t
    | _ => false)
  | _ => false
theorem good_ok {x y : Int} {o : Option (V × List O)} (h : good x y o = true) : ∃ a b c d e f g h, ([a, b, c, d, e, f, g, h].all V.leaf) = true ∧ o = some (.tup [.agg [a, b, c, d, e, f, g, h], .int 0], []) ∧ run (over D0 E1) 200 fn_law19_money [.agg [a, b, c, d, e, f, g, h], .int x, .int y] [] = some (.bool true, []) := by
  unfold good at h
  split at h
  · simp only [Bool.and_eq_true, decide_eq_true_eq] at h
    obtain ⟨⟨rfl, h1⟩, h2⟩ := h
    split at h2
    · subst h2
      rename_i hm
      exact ⟨_, _, _, _, _, _, _, _, h1, rfl, hm⟩
    · cases h2
  · cases h
theorem solveA : good 10 10 (run (over D0 E1) 500 fn_clearing_Solve [gA] []) = true := by kernel_rfl
end Go.Proofs.Vm
/-! The chapter's examples: Least. -/
namespace Go.Proofs.Vm
open Go Go.Proofs.Na
theorem leastA : good 0 0 (run (over D0 E1) 500 fn_clearing_Least [gA] []) = true := by kernel_rfl
end Go.Proofs.Vm
/-! The chapter's examples: Solve with more creditors. -/
namespace Go.Proofs.Vm
open Go Go.Proofs.Na
theorem solveB : good 6 3 (run (over D0 E1) 500 fn_clearing_Solve [gB] []) = true := by kernel_rfl
end Go.Proofs.Vm
/-! The chapter's examples hold: awake. -/
namespace Go.Proofs.Vm
open Go Go.Proofs.Na

theorem mapM_up {f g : V → Option V} : ∀ {l : List V} {r : List V}, (∀ x ∈ l, ∀ y, f x = some y → g x = some y) → l.mapM f = some r → l.mapM g = some r
  | [], r, _, h => h
  | x :: l, r, hl, h => by
    rw [mapM_cons'] at h ⊢
    cases hx : f x with
    | none => rw [hx] at h; cases h
    | some y =>
      rw [hx] at h
      rw [hl x List.mem_cons_self y hx]
      simp only [Option.bind_some] at h ⊢
      cases hm : l.mapM f with
      | none => rw [hm] at h; cases h
      | some ys =>
        rw [hm] at h
        rw [mapM_up (fun z hz => hl z (List.mem_cons_of_mem _ hz)) hm]
        exact h
theorem frz_any {H : List O} : ∀ (n : Nat) {v r : V}, frz [] n v = some r → frz H n v = some r
  | 0, _, _, h => by cases h
  | n + 1, v, r, h => by
    cases v with
    | agg l =>
      simp only [frz] at h ⊢
      obtain ⟨l', h1, rfl⟩ := Option.map_eq_some_iff.1 h
      rw [mapM_up (fun x _ y hy => frz_any n hy) h1]; rfl
    | tup l =>
      simp only [frz] at h ⊢
      obtain ⟨l', h1, rfl⟩ := Option.map_eq_some_iff.1 h
      rw [mapM_up (fun x _ y hy => frz_any n hy) h1]; rfl
    | osl h' o n' => simp [frz, getO] at h
    | optr h' o => simp [frz, getO] at h
    | _ => exact h
/-- A pure call does not look at the caller's objects. -/
theorem Fx_lift {f : FuncId} {fn : Fn} {args : List V} {r : V} (hd : D0 f = some (.code true fn)) (h : ∀ K, Fx D0 f args [] K = K r []) {H : List O} (K : V → List O → Prop) : Fx D0 f args H K = K r H := by
  refine Fx_is ?_ K
  have h1 : Fx D0 f args [] fun x X => x = r ∧ X = [] := by rw [h]; exact ⟨rfl, rfl⟩
  cases ha : args.mapM (frz [] depth) with
  | none =>
    obtain ⟨n, x, e, q⟩ := h1
    cases n with
    | zero => cases e
    | succ n => simp only [run, hd, ha] at e; cases e
  | some as =>
    refine (Fx_pure hd (mapM_up (fun x _ y hy => frz_any _ hy) ha)).2 (Bx_mono ((Fx_pure hd ha).1 h1) ?_)
    rintro e s X q
    cases e with
    | exit id => exact q
    | normal => obtain ⟨vs, hv, z, hz, rfl, q⟩ := q; exact ⟨vs, hv, z, hz, rfl, rfl⟩
    | ret => obtain ⟨vs, hv, z, hz, rfl, q⟩ := q; exact ⟨vs, hv, z, hz, rfl, rfl⟩

theorem c_awake {H : List O} (K : V → List O → Prop) : Fx D0 fn_law19_awake [] H K = K (.bool true) H := by
  refine Fx_lift d_law19_awake (fun K => ?_) K
  refine Fx_is ?_ K
  refine Fx_ofp d_law19_awake rfl ?_
  obtain ⟨a1, b1, c1, d1, e1, f1, g1, h1, l1, s1, m1⟩ := good_ok solveA
  obtain ⟨a2, b2, c2, d2, e2, f2, g2, h2, l2, s2, m2⟩ := good_ok leastA
  obtain ⟨a3, b3, c3, d3, e3, f3, g3, h3, l3, s3, m3⟩ := good_ok solveB
  have pA := fun K X => Fx_lift d_law19_circle (Fx_run run_gA) (H := X) K
  have pB := fun K X => Fx_lift d_law19_circle (Fx_run run_gB) (H := X) K
  have q1 := fun K X => Fx_lift d_clearing_Solve (Fx_run s1) (H := X) K
  have q2 := fun K X => Fx_lift d_clearing_Least (Fx_run s2) (H := X) K
  have q3 := fun K X => Fx_lift d_clearing_Solve (Fx_run s3) (H := X) K
  have r1 := fun K X => Fx_lift d_law19_money (Fx_run m1) (H := X) K
  have r2 := fun K X => Fx_lift d_law19_money (Fx_run m2) (H := X) K
  have r3 := fun K X => Fx_lift d_law19_money (Fx_run m3) (H := X) K
  simp only [List.all_cons, List.all_nil, Bool.and_true, Bool.and_eq_true] at l1 l2 l3
  simp [go_sem, F_law19_awake, pA, pB, q1, q2, q3, r1, r2, r3, l1, l2, l3]
end Go.Proofs.Vm
/-! The program's check of a group; Solve and Least of a group with an error. -/
namespace Go.Proofs.Vm
open Go Go.Proofs.Na

theorem lookM_putM {k k' : List Int} {b : Bool} : ∀ {es : List (List Int × Bool)}, lookM k (putM k' b es) = if k' = k then b else lookM k es
  | [] => by simp only [putM, lookM]
  | (k2, c) :: es => by
    simp only [putM]
    by_cases h : k2 = k'
    · rw [if_pos h]; subst h
      simp only [lookM]
      split <;> rfl
    · rw [if_neg h]
      simp only [lookM]
      by_cases h2 : k2 = k
      · rw [if_pos h2, if_neg (fun e => h (h2.trans e.symm)), if_pos h2]
      · rw [if_neg h2, lookM_putM, if_neg h2]
def MapIs (es : List (List Int × Bool)) (seen : List Leg) : Prop := ∀ l : Leg, lookM [l.estate, l.claim] es = decide (l ∈ seen)
theorem MapIs.put {es : List (List Int × Bool)} {seen : List Leg} (h : MapIs es seen) (l : Leg) : MapIs (putM [l.estate, l.claim] true es) (seen ++ [l]) := by
  intro z
  rw [lookM_putM, h z]
  by_cases e : l = z
  · subst e; simp
  · have : ¬ [l.estate, l.claim] = [z.estate, z.claim] := fun h => e (by simp at h; exact leg_ext h.1 h.2)
    have e' : ¬ z = l := fun h => e h.symm
    rw [if_neg this]; simp [e']
theorem lk_at {h : Nat} {es : List (List Int × Bool)} {seen : List Leg} {X : List O} (hX : X[h]? = some (.map 2 es)) (hm : MapIs es seen) (l : Leg) : ev1 (.lkm 2 (.c (.omap h)) (.c (.agg l.c))) X = some (.bool (decide (l ∈ seen)), X) := by
  rw [← hm l]
  simp only [ev1, evI, Opd.ev, hX, keyI, intsV, Option.map_some, List.length_cons, List.length_nil, if_true]
theorem up_at {h : Nat} {es : List (List Int × Bool)} {X : List O} (hX : X[h]? = some (.map 2 es)) (l : Leg) : ev1 (.upm 2 (.c (.omap h)) (.c (.agg l.c)) (.c (.bool true))) X = some (.none_, X.set h (.map 2 (putM [l.estate, l.claim] true es))) := by
  simp only [ev1, evI, Opd.ev, hX, keyI, intsV, Option.map_some, List.length_cons, List.length_nil, if_true]

theorem c_holder {g : Group} {l : Leg} (hin : inR g l) {H : List O} (K : V → List O → Prop) : Fx D0 fn_guarantee_holder [.agg g.c, .agg l.c] H K = K (.int (holderOf g l)) H := by
  obtain ⟨h0, h1, e, he, hlt⟩ := hin
  obtain ⟨c, hc⟩ := some_at hlt
  have hh : holderOf g l = c.holder := by unfold holderOf; rw [he]; simp only; rw [hc]
  rw [hh]
  refine Fx_is ?_ K
  refine Fx_ofp (as := [.agg g.c, .agg l.c]) d_guarantee_holder rfl ?_
  have i1 := fun K X => ia_Estate (K := K) (H := X) (t := true) (q := .i64) he h0
  have i2 := fun K X => ld_Estate (K := K) (H := X) (t := true) (k := 3) he rfl
  have i3 := fun K X => ia_Claim (K := K) (H := X) (t := true) (q := .i64) hc h1
  have i4 := fun K X => ld_Claim (K := K) (H := X) (t := true) (k := 0) hc rfl
  simp [go_sem, F_guarantee_holder, leaf_sl, off_ep, i1, i2, i3, i4]

/-- What a call leaves: the objects that were there, but for one. -/
def Kept (h : Nat) (H X : List O) : Prop := ∀ i, i < H.length → i ≠ h → X[i]? = H[i]?
theorem Kept.app {h : Nat} {H X Y : List O} (k : Kept h H X) (hl : H.length ≤ X.length) : Kept h H (X ++ Y) := fun i hi hn => by rw [List.getElem?_append_left (by omega)]; exact k i hi hn
theorem Kept.set {h : Nat} {H X : List O} {o : O} (k : Kept h H X) : Kept h H (X.set h o) := fun i hi hn => by rw [List.getElem?_set_ne (fun e => hn e.symm)]; exact k i hi hn
def cdI (g : Group) (d : Debt) (seen : List Leg) (h : Nat) (H : List O) (i : Nat) (s : Nat → V) (X : List O) : Prop :=
  ∃ es, H.length + 2 ≤ X.length ∧ Kept h H X ∧ X[H.length]? = some (.cells g.c ty_api_Group 2) ∧ X[H.length + 1]? = some (.cells d.c ty_api_Debt 4) ∧ s 2 = .omap h ∧ s 3 = .optr H.length 0 ∧ s 4 = .optr (H.length + 1) 0 ∧ s 20 = sl true d.legs ∧ s 21 = .int (d.legs.length : Int) ∧ s 22 = .int (i : Int) ∧
    X[h]? = some (.map 2 es) ∧ MapIs es (seen ++ d.legs.take i) ∧ (0 < i → ∃ l, d.legs[0]? = some l ∧ inR g l) ∧
    chkLs g (hold0 g d) seen d.legs = chkLs g (hold0 g d) (seen ++ d.legs.take i) (d.legs.drop i)
theorem c_checkDebt {g : Group} {d : Debt} {seen : List Leg} {h : Nat} {H : List O} {es : List (List Int × Bool)} (hh : H[h]? = some (.map 2 es)) (hm : MapIs es seen) (okw : okX d.whole) (okl : d.legs.length < 4611686018427387904) (okg : g.estates.length < 4611686018427387904) :
    Fx D0 fn_guarantee_checkDebt [.agg g.c, .agg d.c, .omap h] H fun r X => r = .int (chkD g seen d) ∧ Kept h H X ∧ (chkD g seen d = 0 → ∃ es, X[h]? = some (.map 2 es) ∧ MapIs es (seen ++ d.legs)) := by
  have hhl := flat_lt hh
  refine Fx_of d_guarantee_checkDebt ?_
  have p1 := fun K X => c_SignX (H := X) okw K
  unfold chkD
  have g0 : ∀ (a b : O), (H ++ [a, b])[H.length]? = some a := fun a b => by rw [List.getElem?_append_right (Nat.le_refl _)]; simp
  have g1 : ∀ (a b : O), (H ++ [a, b])[H.length + 1]? = some b := fun a b => by rw [List.getElem?_append_right (by omega)]; simp
  have k0 : Kept h H (H ++ [.cells g.c ty_api_Group 2, .cells d.c ty_api_Debt 4]) := Kept.app (fun i _ _ => rfl) (Nat.le_refl _)
  by_cases h1 : 8 < d.legs.length
  · have h1' : 8 < (d.legs.length : Int) := by omega
    simp [go_sem, F_guarantee_checkDebt, leaf_sl, leaf_st, len_sl, g0, g1, h1, h1']
    exact k0
  have h1' : ¬ 8 < (d.legs.length : Int) := by omega
  by_cases h2 : d.whole.q.num.sign < 0
  · simp [-Int.sign_neg_iff, go_sem, F_guarantee_checkDebt, leaf_sl, leaf_st, len_sl, g0, g1, h1, h1', p1, h2]
    exact k0
  simp [-Int.sign_neg_iff, go_sem, F_guarantee_checkDebt, leaf_sl, leaf_st, len_sl, g0, g1, h1, h1', p1, h2]
  refine Bx_up d.legs.length (cdI g d seen h H) ?_ ⟨es, by simp, k0, by simp, by simp, rfl, rfl, rfl, rfl, rfl, rfl, by rw [List.getElem?_append_left hhl]; exact hh, by simpa using hm, fun h => absurd h (by omega), by simp⟩
  clear g0 g1 k0
  rintro i s X hi ⟨es, hXl, hk, hXg, hXd, s2, s3, s4, s20, s21, s22, hXh, hmi, hfst, hall⟩
  refine wpB_ok ?_
  by_cases hlt : i < d.legs.length
  · obtain ⟨l, hl⟩ := some_at hlt
    rw [chkLs_step hl] at hall
    have w1 := inc (i := i) (by omega)
    have i1 := fun K X => ia_Leg (K := K) (H := X) (t := true) (q := .i64) (n := (i : Int)) hl (by omega)
    have i2 := fun K X => lds_Leg (K := K) (H := X) (t := true) (k := 0) (m := 2) hl (by omega)
    simp at i1 i2
    have gg : ∀ Z, (X ++ Z)[H.length]? = some (.cells g.c ty_api_Group 2) := fun Z => by rw [List.getElem?_append_left (by omega)]; exact hXg
    have gd : ∀ Z, (X ++ Z)[H.length + 1]? = some (.cells d.c ty_api_Debt 4) := fun Z => by rw [List.getElem?_append_left (by omega)]; exact hXd
    have gh : ∀ Z, (X ++ Z)[h]? = some (.map 2 es) := fun Z => by rw [List.getElem?_append_left (by omega)]; exact hXh
    have kk : ∀ Z, Kept h H (X ++ Z) := fun Z => hk.app (by omega)
    by_cases c1 : l.estate < 0
    · have hv : chkL g (hold0 g d) (seen ++ d.legs.take i) l = 1 := by unfold chkL; rw [if_pos (fun h => by have := h.1; omega)]
      rw [hv, if_neg (by omega)] at hall
      simp [go_sem, s2, s3, s4, s20, s21, s22, hlt, i1, i2, gg, gd, gh, c1, hall]
      exact kk _
    by_cases c2 : (g.estates.length : Int) ≤ l.estate
    · have hv : chkL g (hold0 g d) (seen ++ d.legs.take i) l = 1 := by
        unfold chkL; rw [if_pos]; rintro ⟨_, _, e, he, _⟩
        have := flat_lt he; omega
      rw [hv, if_neg (by omega)] at hall
      simp [go_sem, s2, s3, s4, s20, s21, s22, hlt, i1, i2, gg, gd, gh, len_sl, c1, c2, hall]
      exact kk _
    obtain ⟨e, he⟩ := some_at (l := g.estates) (i := l.estate.toNat) (by omega)
    have j1 := fun K X => ia_Estate (K := K) (H := X) (t := true) (q := .i64) he (by omega)
    have j2 := fun K X => ld_Estate (K := K) (H := X) (t := true) (k := 3) he rfl
    by_cases c3 : l.claim < 0
    · have hv : chkL g (hold0 g d) (seen ++ d.legs.take i) l = 1 := by unfold chkL; rw [if_pos (fun h => by have := h.2.1; omega)]
      rw [hv, if_neg (by omega)] at hall
      simp [go_sem, s2, s3, s4, s20, s21, s22, hlt, i1, i2, gg, gd, gh, len_sl, c1, c2, c3, hall]
      exact kk _
    by_cases c4 : (e.claims.length : Int) ≤ l.claim
    · have hv : chkL g (hold0 g d) (seen ++ d.legs.take i) l = 1 := by
        unfold chkL; rw [if_pos]; rintro ⟨_, _, e', he', h'⟩
        rw [he] at he'; cases he'; omega
      rw [hv, if_neg (by omega)] at hall
      simp [go_sem, s2, s3, s4, s20, s21, s22, hlt, i1, i2, j1, j2, gg, gd, gh, off_ep, len_sl, c1, c2, c3, c4, hall]
      exact kk _
    obtain ⟨c, hc⟩ := some_at (l := e.claims) (i := l.claim.toNat) (by omega)
    have hin : inR g l := ⟨by omega, by omega, e, he, flat_lt hc⟩
    have lk := fun Z => lk_at (gh Z) hmi l
    by_cases c5 : l ∈ seen ++ d.legs.take i
    · have hv : chkL g (hold0 g d) (seen ++ d.legs.take i) l = 20 := by unfold chkL; rw [if_neg (fun h => h hin), if_pos c5]
      rw [hv, if_neg (by omega)] at hall
      simp only [c5, decide_true] at lk
      simp [go_sem, s2, s3, s4, s20, s21, s22, hlt, i1, i2, j1, j2, gg, gd, gh, off_ep, len_sl, c1, c2, c3, c4, lk, hall]
      exact kk _
    simp only [c5, decide_false] at lk
    obtain ⟨l0, hl0⟩ := some_at (l := d.legs) (i := 0) (by omega)
    have hin0 : inR g l0 := by
      by_cases hi0 : i = 0
      · subst hi0; rw [hl] at hl0; cases hl0; exact hin
      · obtain ⟨l1, h1, h2⟩ := hfst (by omega)
        rw [hl0] at h1; cases h1; exact h2
    have hh0 : hold0 g d = holderOf g l0 := by unfold hold0; rw [hl0]
    have p3 := fun K X => c_holder hin (H := X) K
    have p4 := fun K X => c_holder hin0 (H := X) K
    have i5 := fun K X => ia_Leg (K := K) (H := X) (t := true) (q := .i64) (n := 0) hl0 (by omega)
    have i6 := fun K X => lds_Leg (K := K) (H := X) (t := true) (k := 0) (m := 2) hl0 (by omega)
    simp at i5 i6
    by_cases c6 : holderOf g l = holderOf g l0
    · have hv : chkL g (hold0 g d) (seen ++ d.legs.take i) l = 0 := by unfold chkL; rw [if_neg (fun h => h hin), if_neg c5, if_neg (by rw [hh0]; exact fun h => h c6)]
      rw [if_pos hv] at hall
      have up := fun Z => up_at (gh Z) l
      simp [go_sem, s2, s3, s4, s20, s21, s22, hlt, i1, i2, i5, i6, j1, j2, gg, gd, gh, off_ep, len_sl, leaf_sl, c1, c2, c3, c4, lk, p3, p4, c6, up, w1, -Int.natCast_add]
      refine ⟨_, by simp; omega, (kk _).set, ?_, ?_, by simp [go_sem, s2], by simp [go_sem, s3], by simp [go_sem, s4], by simp [go_sem, s20], by simp [go_sem, s21], by simp [go_sem], List.getElem?_set_self (by simp; omega), ?_, fun _ => ⟨l0, hl0, hin0⟩, hall⟩
      · rw [List.getElem?_set_ne (by omega)]; exact gg _
      · rw [List.getElem?_set_ne (by omega)]; exact gd _
      · rw [take_snoc hl, ← List.append_assoc]; exact hmi.put l
    · have hv : chkL g (hold0 g d) (seen ++ d.legs.take i) l = 19 := by unfold chkL; rw [if_neg (fun h => h hin), if_neg c5, if_pos (by rw [hh0]; exact c6)]
      rw [hv, if_neg (by omega)] at hall
      have c6' : (holderOf g l != holderOf g l0) = true := bne_iff_ne.2 c6
      simp [go_sem, s2, s3, s4, s20, s21, s22, hlt, i1, i2, i5, i6, j1, j2, gg, gd, gh, off_ep, len_sl, leaf_sl, c1, c2, c3, c4, lk, p3, p4, c6', hall]
      exact kk _
  · have e : d.legs.take i = d.legs := List.take_of_length_le (by omega)
    rw [drop_end (l := d.legs) (i := i) (by omega)] at hall
    simp only [chkLs] at hall
    rw [e] at hmi
    simp [go_sem, s2, s3, s4, s20, s21, s22, hlt, hall]
    exact ⟨hk, es, hXh, hmi⟩
end Go.Proofs.Vm
/-! The program's check of a group; the law ClearingErrors. -/
namespace Go.Proofs.Vm
open Go Go.Proofs.Na

def gcI1 (g : Group) (i : Nat) (s : Nat → V) (X : List O) : Prop :=
  ∃ Y, X = .cells g.c ty_api_Group 2 :: Y ∧ s 1 = .optr 0 0 ∧ s 25 = sl true g.estates ∧ s 26 = .int (g.estates.length : Int) ∧ s 27 = .int (i : Int) ∧ firstE chkE g.estates = firstE chkE (g.estates.drop i)
def gcI2 (g : Group) (i : Nat) (s : Nat → V) (X : List O) : Prop :=
  ∃ Y, X = .cells g.c ty_api_Group 2 :: Y ∧ s 1 = .optr 0 0 ∧ s 38 = sl true g.estates ∧ s 39 = .int (g.estates.length : Int) ∧ s 40 = .int (i : Int) ∧ chkHs g.estates.length 0 g.estates = chkHs g.estates.length i (g.estates.drop i)
def gcI3 (g : Group) (e : Estate) (i j : Nat) (s : Nat → V) (X : List O) : Prop :=
  ∃ Y, X = .cells g.c ty_api_Group 2 :: Y ∧ s 1 = .optr 0 0 ∧ s 38 = sl true g.estates ∧ s 39 = .int (g.estates.length : Int) ∧ s 40 = .int (i : Int) ∧ s 6 = .int (i : Int) ∧ s 46 = sl true e.claims ∧ s 47 = .int (e.claims.length : Int) ∧ s 48 = .int (j : Int) ∧
    firstE (chkH g.estates.length i) e.claims = firstE (chkH g.estates.length i) (e.claims.drop j)
def gcI4 (g : Group) (h : Nat) (i : Nat) (s : Nat → V) (X : List O) : Prop :=
  ∃ es, h ≠ 0 ∧ X[0]? = some (.cells g.c ty_api_Group 2) ∧ X[h]? = some (.map 2 es) ∧ MapIs es ((g.debts.take i).flatMap (·.legs)) ∧ s 1 = .optr 0 0 ∧ s 10 = .omap h ∧ s 68 = sl true g.debts ∧ s 69 = .int (g.debts.length : Int) ∧ s 70 = .int (i : Int) ∧
    chkDs g [] g.debts = chkDs g ((g.debts.take i).flatMap (·.legs)) (g.debts.drop i)
theorem c_CheckG {g : Group} (ok : okG g) {H : List O} (K : V → List O → Prop) : Fx D0 fn_guarantee_Check [.agg g.c] H K = K (.int (chkG g)) H := by
  have le := ok.le
  have ld := ok.ld
  refine Fx_is ?_ K
  refine Fx_ofp (as := [.agg g.c]) d_guarantee_Check rfl ?_
  unfold chkG
  by_cases h1 : 8 < g.estates.length
  · have h1' : 8 < (g.estates.length : Int) := by omega
    simp [go_sem, F_guarantee_Check, len_sl, leaf_sl, h1, h1']
  have h1' : ¬ 8 < (g.estates.length : Int) := by omega
  by_cases h2 : 16 < g.debts.length
  · have h2' : 16 < (g.debts.length : Int) := by omega
    simp [go_sem, F_guarantee_Check, len_sl, leaf_sl, h1, h1', h2, h2']
  have h2' : ¬ 16 < (g.debts.length : Int) := by omega
  simp [go_sem, F_guarantee_Check, len_sl, leaf_sl, h1, h1', h2, h2']
  refine Bx_up g.estates.length (gcI1 g) ?_ ⟨[], rfl, rfl, rfl, rfl, rfl, rfl⟩
  rintro i s X hi ⟨Y, rfl, s1, s25, s26, s27, hall⟩
  refine wpB_ok ?_
  by_cases hlt : i < g.estates.length
  · obtain ⟨e, he⟩ := some_at hlt
    rw [first_step he] at hall
    have w1 := inc (i := i) (by omega)
    have i1 := fun K X => ia_Estate (K := K) (H := X) (t := true) (q := .i64) (n := (i : Int)) he (by omega)
    have i2 := fun K X => lds_Estate (K := K) (H := X) (t := true) (k := 0) (m := 5) he (by omega)
    simp at i1 i2
    have p1 := fun K X => c_CheckE (ok.es e (List.mem_of_getElem? he)) (H := X) K
    by_cases hv : chkE e = 0
    · rw [if_pos hv] at hall
      rw [hv] at p1
      simp [go_sem, s1, s25, s26, s27, hlt, leaf_st, leaf_sl, i1, i2, p1, w1, -Int.natCast_add]
      exact ⟨_, rfl, by simp [go_sem, s1], by simp [go_sem, s25], by simp [go_sem, s26], by simp [go_sem], hall⟩
    · rw [if_neg hv] at hall
      have hv' : (chkE e != 0) = true := bne_iff_ne.2 hv
      simp [go_sem, s1, s25, s26, s27, hlt, leaf_st, leaf_sl, i1, i2, p1, hv, hv', hall]
  · rw [drop_end (by omega)] at hall
    simp only [firstE] at hall
    rw [if_pos hall]
    simp [go_sem, s1, s25, s26, s27, hlt, len_sl]
    refine Bx_up g.estates.length (gcI2 g) ?_ ⟨Y, rfl, by simp [go_sem, s1], by simp [go_sem], by simp [go_sem], by simp [go_sem], rfl⟩
    clear s1 s25 s26 s27 hlt hi i Y
    clear s
    rintro i s X hi ⟨Y, rfl, s1, s38, s39, s40, hall⟩
    refine wpB_ok ?_
    by_cases hlt : i < g.estates.length
    · obtain ⟨e, he⟩ := some_at hlt
      have elc := (ok.es e (List.mem_of_getElem? he)).lc
      rw [chkHs_step he] at hall
      have w1 := inc (i := i) (by omega)
      have i1 := fun K X => ia_Estate (K := K) (H := X) (t := true) (q := .i64) (n := (i : Int)) he (by omega)
      have i2 := fun K X => lds_Estate (K := K) (H := X) (t := true) (k := 0) (m := 5) he (by omega)
      simp at i1 i2
      simp [go_sem, s1, s38, s39, s40, hlt, leaf_st, leaf_sl, i1, i2, len_sl]
      refine Bx_up e.claims.length (gcI3 g e i) ?_ ⟨_, rfl, by simp [go_sem, s1], by simp [go_sem, s38], by simp [go_sem, s39], by simp [go_sem, s40], by simp [go_sem], by simp [go_sem], by simp [go_sem], by simp [go_sem], rfl⟩
      clear s1 s38 s39 s40 Y
      clear s
      rintro j s X hj ⟨Y, rfl, s1, s38, s39, s40, s6, s46, s47, s48, hall2⟩
      refine wpB_ok ?_
      by_cases hlt2 : j < e.claims.length
      · obtain ⟨c, hc⟩ := some_at hlt2
        rw [first_step hc] at hall2
        have w2 := inc (i := j) (by omega)
        have i3 := fun K X => ia_Claim (K := K) (H := X) (t := true) (q := .i64) (n := (j : Int)) hc (by omega)
        have i4 := fun K X => lds_Claim (K := K) (H := X) (t := true) (k := 0) (m := 5) hc (by omega)
        simp at i3 i4
        by_cases c2 : c.holder = (i : Int)
        · have hv : chkH g.estates.length i c = 19 := by unfold chkH; rw [if_pos (.inr c2)]
          rw [hv, if_neg (by omega)] at hall2
          rw [hall2, if_neg (by omega)] at hall
          simp [go_sem, s1, s6, s46, s47, s48, hlt2, len_sl, leaf_st, i3, i4, c2, hall]
        have c2' : (c.holder == (i : Int)) = false := beq_eq_false_iff_ne.2 c2
        by_cases c1 : (g.estates.length : Int) ≤ c.holder
        · have hv : chkH g.estates.length i c = 19 := by unfold chkH; rw [if_pos (.inl c1)]
          rw [hv, if_neg (by omega)] at hall2
          rw [hall2, if_neg (by omega)] at hall
          simp [go_sem, s1, s6, s46, s47, s48, hlt2, len_sl, leaf_st, i3, i4, c1, c2', hall]
        · have hv : chkH g.estates.length i c = 0 := by unfold chkH; rw [if_neg (by omega)]
          rw [if_pos hv] at hall2
          simp [go_sem, s1, s6, s46, s47, s48, hlt2, len_sl, leaf_st, i3, i4, c1, c2', w2, -Int.natCast_add]
          exact ⟨_, rfl, by simp [go_sem, s1], by simp [go_sem, s38], by simp [go_sem, s39], by simp [go_sem, s40], by simp [go_sem, s6], by simp [go_sem, s46], by simp [go_sem, s47], by simp [go_sem], hall2⟩
      · rw [drop_end (by omega)] at hall2
        simp only [firstE] at hall2
        rw [if_pos hall2] at hall
        simp [go_sem, s1, s40, s46, s47, s48, hlt2, hlt, w1, -Int.natCast_add]
        exact ⟨_, rfl, by simp [go_sem, s1], by simp [go_sem, s38], by simp [go_sem, s39], by simp [go_sem], hall⟩
    · rw [drop_end (by omega)] at hall
      simp only [chkHs] at hall
      rw [if_pos hall]
      simp [go_sem, s1, s38, s39, s40, hlt, len_sl]
      refine Bx_up g.debts.length (gcI4 g (Y.length + 1)) ?_ ⟨[], by omega, rfl, by simp, fun l => by simp [lookM], by simp [go_sem, s1], by simp [go_sem], by simp [go_sem], by simp [go_sem], by simp [go_sem], rfl⟩
      clear s1 s38 s39 s40 hlt hi i hall
      clear s
      generalize Y.length + 1 = h
      clear Y
      rintro i s X hi ⟨es, hh0, hX0, hXh, hm, s1, s10, s68, s69, s70, hall⟩
      refine wpB_ok ?_
      by_cases hlt : i < g.debts.length
      · obtain ⟨d, hd⟩ := some_at hlt
        rw [chkDs_step hd] at hall
        obtain ⟨okw, okl⟩ := ok.ds d (List.mem_of_getElem? hd)
        have w1 := inc (i := i) (by omega)
        have i1 := fun K X => ia_Debt (K := K) (H := X) (t := true) (q := .i64) (n := (i : Int)) hd (by omega)
        have i2 := fun K X => lds_Debt (K := K) (H := X) (t := true) (k := 0) (m := 4) hd (by omega)
        simp at i1 i2
        have lh := flat_lt hXh
        obtain ⟨Y, rfl⟩ : ∃ Y, X = .cells g.c ty_api_Group 2 :: Y := by
          cases X with
          | nil => simp at hX0
          | cons o Y => simp at hX0; exact ⟨Y, by rw [hX0]⟩
        have gh : ∀ Z, ((.cells g.c ty_api_Group 2 :: Y) ++ Z)[h]? = some (.map 2 es) := fun Z => by rw [List.getElem?_append_left lh]; exact hXh
        have cd := c_checkDebt (g := g) (gh [.cells d.c ty_api_Debt 4]) hm okw okl le
        simp [go_sem, s1, s10, s68, s69, s70, hlt, leaf_st, leaf_sl, i1, i2]
        refine Fx_mono cd ?_
        rintro r X' ⟨rfl, hkp, hmap⟩
        by_cases hv : chkD g ((g.debts.take i).flatMap (·.legs)) d = 0
        · rw [if_pos hv] at hall
          obtain ⟨es', hX', hm'⟩ := hmap hv
          rw [hv]
          simp [go_sem, s1, s10, s68, s69, s70, hlt, w1, -Int.natCast_add]
          refine ⟨es', hh0, by rw [hkp 0 (by simp) (fun e => hh0 e.symm)]; rfl, hX', ?_, by simp [go_sem, s1], by simp [go_sem, s10], by simp [go_sem, s68], by simp [go_sem, s69], by simp [go_sem], hall⟩
          rw [take_snoc hd, List.flatMap_append]; simpa using hm'
        · rw [if_neg hv] at hall
          have hv' : (chkD g ((g.debts.take i).flatMap (·.legs)) d != 0) = true := bne_iff_ne.2 hv
          simp [go_sem, s1, s10, s68, s69, s70, hlt, hv', hall]
      · rw [drop_end (by omega)] at hall
        simp only [chkDs] at hall
        simp [go_sem, s1, s10, s68, s69, s70, hlt, hall]

def noS : V := .agg [.nils, .nils, .nils, .nils, .nils, .nils, .nils, .nils]
theorem c_SolveErr {g : Group} (ok : okG g) (h : chkG g ≠ 0) {H : List O} (K : V → List O → Prop) : Fx D0 fn_clearing_Solve [.agg g.c] H K = K (.tup [noS, .int (chkG g)]) H := by
  refine Fx_is ?_ K
  refine Fx_ofp (as := [.agg g.c]) d_clearing_Solve rfl ?_
  have p1 := fun K X => c_CheckG ok (H := X) K
  have hv' : (chkG g != 0) = true := bne_iff_ne.2 h
  simp [go_sem, F_clearing_Solve, leaf_sl, p1, hv', getO, readV, noS]
theorem c_LeastErr {g : Group} (ok : okG g) (h : chkG g ≠ 0) {H : List O} (K : V → List O → Prop) : Fx D0 fn_clearing_Least [.agg g.c] H K = K (.tup [noS, .int (chkG g)]) H := by
  refine Fx_is ?_ K
  refine Fx_ofp (as := [.agg g.c]) d_clearing_Least rfl ?_
  have p1 := fun K X => c_CheckG ok (H := X) K
  have hv' : (chkG g != 0) = true := bne_iff_ne.2 h
  simp [go_sem, F_clearing_Least, leaf_sl, p1, hv', getO, readV, noS]

theorem few_ok {g : Group} (h : fewG g = true) : okG g := by
  unfold fewG at h
  simp only [Bool.and_eq_true, decide_eq_true_eq, List.all_eq_true] at h
  obtain ⟨⟨⟨h1, h2⟩, h3⟩, h4⟩ := h
  have fx : ∀ x : XR, fewX x = true → okX x := fun x hx => by
    unfold fewX at hx
    simp only [Bool.and_eq_true, decide_eq_true_eq] at hx
    unfold okX; omega
  refine ⟨fun e he => ?_, fun d hd => ?_, by omega, by omega⟩
  · have := h3 e he
    unfold fewE at this
    simp only [Bool.and_eq_true, decide_eq_true_eq, List.all_eq_true] at this
    obtain ⟨⟨⟨⟨e1, e2⟩, e3⟩, e4⟩, e5⟩ := this
    refine ⟨fx _ e3, fun c hc => fx _ (e4 c hc), fun a ha t ht p hp => ?_, by omega, by omega, fun a ha => ?_⟩
    · have := e5 a ha
      unfold fewA at this
      simp only [Bool.and_eq_true, decide_eq_true_eq, List.all_eq_true] at this
      have := this.2 t ht
      unfold fewT at this
      simp only [Bool.and_eq_true, decide_eq_true_eq, List.all_eq_true] at this
      exact fx _ (this.2 p hp)
    · have := e5 a ha
      unfold fewA at this
      simp only [Bool.and_eq_true, decide_eq_true_eq, List.all_eq_true] at this
      refine ⟨by omega, fun t ht => ?_⟩
      have := this.2 t ht
      unfold fewT at this
      simp only [Bool.and_eq_true, decide_eq_true_eq, List.all_eq_true] at this
      omega
  · have := h4 d hd
    unfold fewD at this
    simp only [Bool.and_eq_true, decide_eq_true_eq] at this
    exact ⟨fx _ this.2, by omega⟩
theorem c_ClearingErrors (g : Group) {H : List O} (K : V → List O → Prop) : Fx D0 fn_law19_ClearingErrors [.agg g.c] H K = K (.bool true) H := by
  refine Fx_is ?_ K
  refine Fx_ofp (as := [.agg g.c]) d_law19_ClearingErrors rfl ?_
  have p0 := fun K X => c_law18_Few g (H := X) K
  have pa := fun K X => c_awake (H := X) K
  cases hf : fewG g
  · rw [hf] at p0
    simp [go_sem, F_law19_ClearingErrors, leaf_sl, p0, pa]
  · rw [hf] at p0
    have ok := few_ok hf
    have p1 := fun K X => r_CheckGroup ok (H := X) K
    by_cases hv : chkG g = 0
    · rw [hv] at p1
      simp [go_sem, F_law19_ClearingErrors, leaf_sl, p0, p1, pa]
    · have hv' : (chkG g == 0) = false := beq_eq_false_iff_ne.2 hv
      have p2 := fun K X => c_SolveErr ok hv (H := X) K
      have p3 := fun K X => c_LeastErr ok hv (H := X) K
      unfold noS at p2 p3
      simp [go_sem, F_law19_ClearingErrors, leaf_sl, p0, p1, p2, p3, pa, hv']
end Go.Proofs.Vm
