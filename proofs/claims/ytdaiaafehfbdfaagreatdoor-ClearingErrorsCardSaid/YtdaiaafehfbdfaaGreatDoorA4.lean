/- slices.Concat of lists of parts; slices.ContainsFunc over them. -/
import Derived.Test.YtdaiaafehfbdfaaGreatDoorA3
set_option maxRecDepth 4000
set_option linter.unusedVariables false
set_option linter.unusedSimpArgs false
set_option linter.unnecessarySimpa false
set_option linter.unusedSectionVars false
/-! The package natural: step, the guess. -/
namespace Go.Proofs.Vm
open Go Go.Proofs.Na

/-- The bodies of the loops in a piece of code. -/
def B.loops : B → List B
  | .loop b => [b]
  | .seq a b => a.loops ++ b.loops
  | .block _ b => b.loops
  | .cond _ a b => a.loops ++ b.loops
  | _ => []
def stepB (k : Nat) : B := F_natural_step.body.loops.getD k .skip

def guessI (Y : List O) (x d : V) (n top d1 dg : Nat) (q : Nat) (s : Nat → V) (X : List O) : Prop :=
  ∃ r, X = Y ∧ s 0 = x ∧ s 1 = d ∧ s 5 = .int (n : Int) ∧ s 7 = u64 q ∧ s 8 = u64 r ∧ q * d1 + r = top ∧ dg ≤ q ∧ q ≤ 4294967297 ∧ r < BB
theorem guess_loop {Y : List O} {h off h2 n top u2 u' d1 d2 d' Wp : Nat} (G : Guess top u2 u' d1 d2 d' Wp) {U D : List Nat} (hn : 2 ≤ n) (hnl : n ≤ 17179869184)
    (hU : Y[h]? = some (.cells (lm U) ty_uint32 1)) (hD : Y[h2]? = some (.cells (lm D) ty_uint32 1)) (g1 : D[n - 1]? = some d1) (g2 : D[n - 2]? = some d2) (g3 : U[off + (n - 2)]? = some u2)
    {s : Nat → V} {R : Ex → (Nat → V) → List O → Prop} {q0 r0 : Nat} (h0 : s 0 = .osl h off (n + 1)) (h1 : s 1 = .osl h2 0 n) (h5 : s 5 = .int (n : Int)) (h7 : s 7 = u64 q0) (h8 : s 8 = u64 r0) (hq0 : q0 * d1 + r0 = top) (hdg : G.digit ≤ q0) (hqb : q0 ≤ 4294967297) (hr0 : r0 < BB)
    (hR : ∀ (s' : Nat → V) (q : Nat), s' 0 = .osl h off (n + 1) → s' 1 = .osl h2 0 n → s' 5 = .int (n : Int) → s' 7 = u64 q → q < BB → G.digit ≤ q → q ≤ G.digit + 1 → R (.exit 0) s' Y) :
    Bx D0 (.loop (stepB 0)) s Y R := by
  refine Bx_rounds (guessI Y (.osl h off (n + 1)) (.osl h2 0 n) n top d1 G.digit) ?_ q0 _ _ ⟨r0, rfl, h0, h1, h5, h7, h8, hq0, hdg, hqb, hr0⟩
  clear h0 h1 h5 h7 h8 hq0 hdg hqb hr0 s
  rintro q s X ⟨r, rfl, h0, h1, h5, h7, h8, hq, hdg, hqb, hr⟩
  refine wpB_ok ?_
  have hBB : BB = 4294967296 := rfl
  have c1 := G.hd1
  have c2 := G.hd2
  have c3 := G.hu2
  have w1 : IntKind.i64.wrap ((n : Int) - 1) = ((n - 1 : Nat) : Int) := by rw [wi (by omega) (by omega)]; omega
  have w2 : IntKind.i64.wrap ((n : Int) - 2) = ((n - 2 : Nat) : Int) := by rw [wi (by omega) (by omega)]; omega
  have w3 : IntKind.u64.wrap (d1 : Int) = (d1 : Int) := by rw [w64 (by omega) (by omega)]
  have w4 : IntKind.u64.wrap (d2 : Int) = (d2 : Int) := by rw [w64 (by omega) (by omega)]
  have w5 : IntKind.u64.wrap (u2 : Int) = (u2 : Int) := by rw [w64 (by omega) (by omega)]
  have i1 : (lm D)[n - 1]? = some (u32 d1) := by simp [lm, g1]
  have i2 : (lm D)[n - 2]? = some (u32 d2) := by simp [lm, g2]
  have i3 : (lm U)[off + (n - 2)]? = some (u32 u2) := by simp [lm, g3]
  have l1 : n - 1 < n := by omega
  have l2 : n - 2 < n := by omega
  have l3 : n - 2 < n + 1 := by omega
  have l3' : ((n - 2 : Nat) : Int) < (n : Int) + 1 := by omega
  -- a round
  have round : q - 1 < q → G.digit ≤ q - 1 → 1 ≤ q → ∀ w : Nat → V, w 0 = .osl h off (n + 1) → w 1 = .osl h2 0 n → w 5 = .int (n : Int) → w 7 = u64 (q - 1) → w 8 = u64 (r + d1) → r + d1 < BB →
      ∃ m, m < q ∧ guessI X (.osl h off (n + 1)) (.osl h2 0 n) n top d1 G.digit m w X := fun a1 a2 a3 w q0 q1 q5 q7 q8 hlt => by
    refine ⟨q - 1, a1, r + d1, rfl, q0, q1, q5, q7, q8, ?_, a2, by omega, hlt⟩
    rw [← hq]
    obtain ⟨p, rfl⟩ : ∃ p, q = p + 1 := ⟨q - 1, by omega⟩
    rw [Nat.add_sub_cancel, Nat.add_mul]; omega
  have over : ∀ {a : Nat}, G.digit < a → G.digit ≤ a - 1 ∧ 1 ≤ a := fun h => ⟨by omega, by omega⟩
  have w6 : 1 ≤ q → IntKind.u64.wrap ((q : Int) - 1) = ((q - 1 : Nat) : Int) := fun h => by rw [w64 (by omega) (by omega)]; omega
  have w7 : IntKind.u64.wrap ((r : Int) + (d1 : Int)) = ((r + d1 : Nat) : Int) := by rw [w64 (by omega) (by omega)]; omega
  have brk : 1 ≤ q → G.digit ≤ q - 1 → ¬ r + d1 < BB → q - 1 < BB ∧ G.digit ≤ q - 1 ∧ q - 1 ≤ G.digit + 1 := fun a3 a2 hge => by
    have he : (q - 1) * d1 + (r + d1) = top := by
      rw [← hq]
      obtain ⟨p, rfl⟩ : ∃ p, q = p + 1 := ⟨q - 1, by omega⟩
      rw [Nat.add_sub_cancel, Nat.add_mul]; omega
    obtain ⟨b1, b2⟩ := G.broke he (by omega)
    exact ⟨b1, a2, G.near he b1 b2⟩
  by_cases hge : 4294967296 ≤ q
  · have hge' : (4294967296 : Int) ≤ q := by omega
    obtain ⟨a2, a3⟩ := over (a := q) (by have := G.digit_lt; omega)
    have w6 := w6 a3
    by_cases hb : r + d1 < BB
    · have hb' : ¬ (4294967296 : Int) ≤ ((r + d1 : Nat) : Int) := by omega
      simp [stepB, F_natural_step, B.loops, go_sem, h0, h1, h5, h7, h8, hge', hU, hD, -Int.natCast_add, w1, w2, w3, w4, w5, w6, w7, i1, i2, i3, l1, l2, l3, hb']
      exact round (by omega) a2 a3 _ (by simp [go_sem, h0]) (by simp [go_sem, h1]) (by simp [go_sem, h5]) (by simp [go_sem]) (by simp [go_sem]) hb
    · have hb' : (4294967296 : Int) ≤ ((r + d1 : Nat) : Int) := by omega
      simp [stepB, F_natural_step, B.loops, go_sem, h0, h1, h5, h7, h8, hge', hU, hD, -Int.natCast_add, w1, w2, w3, w4, w5, w6, w7, i1, i2, i3, l1, l2, l3, hb']
      obtain ⟨b1, b2, b3⟩ := brk a3 a2 hb
      exact hR _ (q - 1) (by simp [go_sem, h0]) (by simp [go_sem, h1]) (by simp [go_sem, h5]) (by simp [go_sem]) b1 b2 b3
  · have hge' : ¬ (4294967296 : Int) ≤ q := by omega
    have hqd : q * d2 < 18446744073709551616 := by
      have : q * d2 ≤ 4294967295 * 4294967295 := Nat.mul_le_mul (by omega) (by omega)
      omega
    obtain ⟨p, hp⟩ : ∃ p, p = q * d2 := ⟨_, rfl⟩
    have w8 : IntKind.u64.wrap ((q : Int) * (d2 : Int)) = (p : Int) := by rw [← Int.natCast_mul, ← hp, w64 (by omega) (by omega)]
    have w9 : IntKind.u64.wrap ((r : Int) * 4294967296) = ((r * 4294967296 : Nat) : Int) := by rw [w64 (by omega) (by omega)]; omega
    have w10 := shl_or (r := r) (a := u2) (by omega) (by omega)
    by_cases hgt : r * 4294967296 + u2 < p
    · have hgt' : ((r * 4294967296 + u2 : Nat) : Int) < (p : Int) := by omega
      obtain ⟨a2, a3⟩ := over (a := q) (G.over hq (by rw [hBB, ← hp]; exact hgt))
      have w6 := w6 a3
      by_cases hb : r + d1 < BB
      · have hb' : ¬ (4294967296 : Int) ≤ ((r + d1 : Nat) : Int) := by omega
        simp [stepB, F_natural_step, B.loops, go_sem, h0, h1, h5, h7, h8, hge', hU, hD, -Int.natCast_add, -Int.natCast_mul, w1, w2, w3, w4, w5, w6, w7, w8, w9, w10, i1, i2, i3, l1, l2, l3, l3', hb', hgt']
        exact round (by omega) a2 a3 _ (by simp [go_sem, h0]) (by simp [go_sem, h1]) (by simp [go_sem, h5]) (by simp [go_sem]) (by simp [go_sem]) hb
      · have hb' : (4294967296 : Int) ≤ ((r + d1 : Nat) : Int) := by omega
        simp [stepB, F_natural_step, B.loops, go_sem, h0, h1, h5, h7, h8, hge', hU, hD, -Int.natCast_add, -Int.natCast_mul, w1, w2, w3, w4, w5, w6, w7, w8, w9, w10, i1, i2, i3, l1, l2, l3, l3', hb', hgt']
        obtain ⟨b1, b2, b3⟩ := brk a3 a2 hb
        exact hR _ (q - 1) (by simp [go_sem, h0]) (by simp [go_sem, h1]) (by simp [go_sem, h5]) (by simp [go_sem]) b1 b2 b3
    · have hgt' : ¬ ((r * 4294967296 + u2 : Nat) : Int) < (p : Int) := by omega
      have b3 := G.near hq (by omega) (by rw [hBB, ← hp]; omega)
      simp [stepB, F_natural_step, B.loops, go_sem, h0, h1, h5, h7, h8, hge', hU, hD, -Int.natCast_add, -Int.natCast_mul, w1, w2, w3, w4, w5, w8, w9, w10, i1, i2, i3, l1, l2, l3, l3', hgt']
      exact hR _ q (by simp [go_sem, h0]) (by simp [go_sem, h1]) (by simp [go_sem, h5]) (by simp [go_sem, h7]) (by omega) hdg b3
end Go.Proofs.Vm
/-! The package natural: step, the loops that subtract and add back. -/
namespace Go.Proofs.Vm
open Go Go.Proofs.Na

theorem lm_get3 {A o Z : List Nat} {off k x : Nat} (hA : A.length = off) (h : o[k]? = some x) : (lm (A ++ (o ++ Z)))[off + k]? = some (u32 x) := by
  obtain ⟨h1, h2⟩ := List.getElem?_eq_some_iff.1 h
  subst hA
  rw [lm, List.getElem?_map, List.getElem?_append_right (by omega), Nat.add_sub_cancel_left, List.getElem?_append_left h1, h]; rfl
theorem lm_set3 {A o Z : List Nat} {off k d : Nat} (hA : A.length = off) (h : k < o.length) : (lm (A ++ (o ++ Z))).take (off + k) ++ u32 d :: (lm (A ++ (o ++ Z))).drop (off + k + 1) = lm (A ++ (o.set k d ++ Z)) := by
  subst hA
  have e : A ++ (o.set k d ++ Z) = (A ++ (o ++ Z)).set (A.length + k) d := by
    rw [List.set_append_right _ _ (by omega), Nat.add_sub_cancel_left, List.set_append_left _ _ h]
  rw [e, ← lm_set, ← set_eq _ _ (by simp [lm_len]; omega)]; simp

theorem msub_inv {lo q T W b c P d v x low b' c' : Nat} (h : lo + q * T = W + (b + c) * P) (ht : low + c' * BB = q * v + c) (hd : d + low + b = x + b' * BB) : (lo + P * d) + q * (T + P * v) = (W + P * x) + (b' + c') * (P * BB) := by
  have h2 := congrArg (P * ·) ht
  have h3 := congrArg (P * ·) hd
  simp only [Nat.mul_add] at h2 h3
  have e1 : q * (T + P * v) = q * T + P * (q * v) := by grind
  have e2 : (b + c) * P = P * b + P * c := by grind
  have e3 : (b' + c') * (P * BB) = P * (b' * BB) + P * (c' * BB) := by grind
  omega

def msubI (Hp : List Nat → List O) (W D : List Nat) (x y : V) (n q : Nat) (m : Nat) (s : Nat → V) (X : List O) : Prop :=
  ∃ i o c b, m = n - i ∧ i ≤ n ∧ X = Hp o ∧ s 0 = x ∧ s 1 = y ∧ s 5 = .int (n : Int) ∧ s 7 = u64 q ∧ s 9 = u64 c ∧ s 10 = u32 b ∧ s 82 = y ∧ s 83 = .int (n : Int) ∧ s 84 = .int (i : Int) ∧
    o.length = n + 1 ∧ Limbs o ∧ (∀ j, i ≤ j → o[j]? = W[j]?) ∧ c < BB ∧ b ≤ 1 ∧ lv (o.take i) + q * lv (D.take i) = lv (W.take i) + (b + c) * BB ^ i
theorem msub_loop {Hp : List Nat → List O} {A Z W D : List Nat} {h h2 off n q : Nat}
    (gH : ∀ o, (Hp o)[h]? = some (.cells (lm (A ++ (o ++ Z))) ty_uint32 1)) (gD : ∀ o, (Hp o)[h2]? = some (.cells (lm D) ty_uint32 1)) (gS : ∀ o o', (Hp o).set h (.cells (lm (A ++ (o' ++ Z))) ty_uint32 1) = Hp o')
    (hA : A.length = off) (hW : W.length = n + 1) (hDn : D.length = n) (hWl : Limbs W) (hDl : Limbs D) (hq : q < BB) (hnl : n ≤ 17179869184)
    {s : Nat → V} {R : Ex → (Nat → V) → List O → Prop} (h0 : s 0 = .osl h off (n + 1)) (h1 : s 1 = .osl h2 0 n) (h5 : s 5 = .int (n : Int)) (h7 : s 7 = u64 q) (h9 : s 9 = u64 0) (h10 : s 10 = u32 0) (h82 : s 82 = .osl h2 0 n) (h83 : s 83 = .int (n : Int)) (h84 : s 84 = .int 0)
    (hR : ∀ (s' : Nat → V) (o : List Nat) (c b : Nat), s' 0 = .osl h off (n + 1) → s' 1 = .osl h2 0 n → s' 5 = .int (n : Int) → s' 7 = u64 q → s' 9 = u64 c → s' 10 = u32 b → o.length = n + 1 → Limbs o → o[n]? = W[n]? → c < BB → b ≤ 1 →
      lv (o.take n) + q * lv D = lv (W.take n) + (b + c) * BB ^ n → R (.exit 2) s' (Hp o)) :
    Bx D0 (.loop (stepB 1)) s (Hp W) R := by
  refine Bx_rounds (msubI Hp W D (.osl h off (n + 1)) (.osl h2 0 n) n q) ?_ n _ _ ⟨0, W, 0, 0, rfl, Nat.zero_le _, rfl, h0, h1, h5, h7, h9, h10, h82, h83, h84, hW, hWl, fun j _ => rfl, BB_pos, by omega, by simp [lv]⟩
  clear h0 h1 h5 h7 h9 h10 h82 h83 h84 s
  rintro m s X ⟨i, o, c, b, rfl, hi, rfl, h0, h1, h5, h7, h9, h10, h82, h83, h84, hol, ho, hsame, hc, hb, hinv⟩
  refine wpB_ok ?_
  have hBB : BB = 4294967296 := rfl
  by_cases hlt : i < n
  · have w1 : IntKind.i64.wrap ((i : Int) + 1) = ((i + 1 : Nat) : Int) := by rw [wi (by omega) (by omega)]; omega
    have hiD : i < D.length := by omega
    have hiW : i < W.length := by omega
    have tD := lv_take_succ hiD
    have tW := lv_take_succ hiW
    have hv := hDl _ (List.getElem_mem hiD)
    have hx := hWl _ (List.getElem_mem hiW)
    have hoi : o[i]? = some W[i] := by rw [hsame i (Nat.le_refl _), List.getElem?_eq_getElem hiW]
    have i1 : (lm D)[i]? = some (u32 D[i]) := lm_at hiD
    have i2 := lm_get3 (Z := Z) hA hoi
    generalize D[i] = v at *
    generalize W[i] = x at *
    have hqv : q * v ≤ 4294967295 * 4294967295 := Nat.mul_le_mul (by omega) (by omega)
    obtain ⟨p, hp⟩ : ∃ p, p = q * v := ⟨_, rfl⟩
    rw [← hp] at hqv
    have w2 : IntKind.u64.wrap (v : Int) = (v : Int) := by rw [w64 (by omega) (by omega)]
    have w3 : IntKind.u64.wrap ((q : Int) * (v : Int)) = (p : Int) := by rw [← Int.natCast_mul, ← hp, w64 (by omega) (by omega)]
    have w4 : IntKind.u64.wrap ((p : Int) + (c : Int)) = ((p + c : Nat) : Int) := by rw [w64 (by omega) (by omega)]; omega
    have hlc : (p + c) % BB + (p + c) / BB * BB = q * v + c := by rw [← hp, Nat.mul_comm]; exact Nat.mod_add_div _ _
    have hll := Nat.mod_lt (p + c) BB_pos
    have hc' : (p + c) / BB < BB := Nat.div_lt_of_lt_mul (by rw [show BB * BB = 18446744073709551616 from rfl]; omega)
    have w5 : IntKind.u32.wrap ((p + c : Nat) : Int) = (((p + c) % BB : Nat) : Int) := by rw [w32m, hBB]; omega
    have w6 : ((p + c : Nat) : Int).fdiv 4294967296 = (((p + c) / BB : Nat) : Int) := by rw [show (4294967296 : Int) = ((4294967296 : Nat) : Int) from rfl, fdivN, hBB]; omega
    obtain ⟨low, hlow⟩ : ∃ low, low = (p + c) % BB := ⟨_, rfl⟩
    obtain ⟨c', hce⟩ : ∃ c', c' = (p + c) / BB := ⟨_, rfl⟩
    rw [← hlow] at w5 hlc hll
    rw [← hce] at w6 hlc hc'
    obtain ⟨d1, d2⟩ := sub_digit hx hll hb
    have hcall := fun K X => c_sub32 (K := K) (H := X) (a := x) (b := low) (c := b) (by omega) (by omega) hb
    generalize (x + 4294967296 - low + (4294967296 - b)) % 4294967296 = d at d1 d2 hcall
    have hb' : (if x < low + b then 1 else 0) ≤ 1 := by split <;> omega
    generalize (if x < low + b then 1 else 0) = b' at d1 hcall hb'
    have e := lm_set3 (A := A) (o := o) (Z := Z) (k := i) (d := d) hA (by omega)
    have l1 : (i : Int) < (n : Int) + 1 := by omega
    simp [stepB, F_natural_step, B.loops, go_sem, h0, h1, h5, h7, h9, h10, h82, h83, h84, hlt, gH, gD, gS, e, hcall, -Int.natCast_add, -Int.natCast_mul, w1, w2, w3, w4, w5, w6, i1, i2, l1]
    exact ⟨by omega, by simp [lm_len]; omega, n - (i + 1), by omega, i + 1, o.set i d, c', b', rfl, by omega, rfl, by simp [go_sem, h0], by simp [go_sem, h1], by simp [go_sem, h5], by simp [go_sem, h7], by simp [go_sem], by simp [go_sem], by simp [go_sem, h82], by simp [go_sem, h83], by simp [go_sem], by simp [hol], limbs_set ho d2,
      fun j hj => by rw [List.getElem?_set, if_neg (by omega)]; exact hsame j (by omega), hc', hb', by rw [lv_take_set (by omega), tD, tW, Nat.pow_succ]; exact msub_inv hinv hlc d1⟩
  · have hi' : i = n := by omega
    subst hi'
    rw [List.take_of_length_le (l := D) (by omega)] at hinv
    simp [stepB, F_natural_step, B.loops, go_sem, h0, h1, h5, h7, h9, h10, h82, h83, h84]
    exact hR _ o c b (by simp [go_sem, h0]) (by simp [go_sem, h1]) (by simp [go_sem, h5]) (by simp [go_sem, h7]) (by simp [go_sem, h9]) (by simp [go_sem, h10]) hol ho (hsame _ (Nat.le_refl _)) hc hb hinv

def backI (Hp : List Nat → List O) (W D : List Nat) (x y : V) (n q : Nat) (m : Nat) (s : Nat → V) (X : List O) : Prop :=
  ∃ i o c, m = n - i ∧ i ≤ n ∧ X = Hp o ∧ s 0 = x ∧ s 1 = y ∧ s 5 = .int (n : Int) ∧ s 7 = u64 q ∧ s 14 = u32 c ∧ s 130 = y ∧ s 131 = .int (n : Int) ∧ s 132 = .int (i : Int) ∧
    o.length = n + 1 ∧ Limbs o ∧ (∀ j, i ≤ j → o[j]? = W[j]?) ∧ c ≤ 1 ∧ lv (o.take i) + c * BB ^ i = lv (W.take i) + lv (D.take i)
theorem back_loop {Hp : List Nat → List O} {A Z W D : List Nat} {h h2 off n q : Nat}
    (gH : ∀ o, (Hp o)[h]? = some (.cells (lm (A ++ (o ++ Z))) ty_uint32 1)) (gD : ∀ o, (Hp o)[h2]? = some (.cells (lm D) ty_uint32 1)) (gS : ∀ o o', (Hp o).set h (.cells (lm (A ++ (o' ++ Z))) ty_uint32 1) = Hp o')
    (hA : A.length = off) (hW : W.length = n + 1) (hDn : D.length = n) (hWl : Limbs W) (hDl : Limbs D) (hnl : n ≤ 17179869184)
    {s : Nat → V} {R : Ex → (Nat → V) → List O → Prop} (h0 : s 0 = .osl h off (n + 1)) (h1 : s 1 = .osl h2 0 n) (h5 : s 5 = .int (n : Int)) (h7 : s 7 = u64 q) (h14 : s 14 = u32 0) (h130 : s 130 = .osl h2 0 n) (h131 : s 131 = .int (n : Int)) (h132 : s 132 = .int 0)
    (hR : ∀ (s' : Nat → V) (o : List Nat) (c : Nat), s' 0 = .osl h off (n + 1) → s' 5 = .int (n : Int) → s' 7 = u64 q → s' 14 = u32 c → o.length = n + 1 → Limbs o → o[n]? = W[n]? → c ≤ 1 →
      lv (o.take n) + c * BB ^ n = lv (W.take n) + lv D → R (.exit 4) s' (Hp o)) :
    Bx D0 (.loop (stepB 2)) s (Hp W) R := by
  refine Bx_rounds (backI Hp W D (.osl h off (n + 1)) (.osl h2 0 n) n q) ?_ n _ _ ⟨0, W, 0, rfl, Nat.zero_le _, rfl, h0, h1, h5, h7, h14, h130, h131, h132, hW, hWl, fun j _ => rfl, by omega, by simp [lv]⟩
  clear h0 h1 h5 h7 h14 h130 h131 h132 s
  rintro m s X ⟨i, o, c, rfl, hi, rfl, h0, h1, h5, h7, h14, h130, h131, h132, hol, ho, hsame, hc, hinv⟩
  refine wpB_ok ?_
  have hBB : BB = 4294967296 := rfl
  by_cases hlt : i < n
  · have w1 : IntKind.i64.wrap ((i : Int) + 1) = ((i + 1 : Nat) : Int) := by rw [wi (by omega) (by omega)]; omega
    have hiD : i < D.length := by omega
    have hiW : i < W.length := by omega
    have tD := lv_take_succ hiD
    have tW := lv_take_succ hiW
    have hv := hDl _ (List.getElem_mem hiD)
    have hx := hWl _ (List.getElem_mem hiW)
    have hoi : o[i]? = some W[i] := by rw [hsame i (Nat.le_refl _), List.getElem?_eq_getElem hiW]
    have i1 : (lm D)[i]? = some (u32 D[i]) := lm_at hiD
    have i2 := lm_get3 (Z := Z) hA hoi
    generalize D[i] = v at *
    generalize W[i] = x at *
    obtain ⟨d1, d2, hc'⟩ := add_digit hx hv hc
    have hcall := fun K X => c_add32 (K := K) (H := X) (a := x) (b := v) (c := c) (by omega) (by omega) hc
    generalize (x + v + c) % 4294967296 = d at d1 d2 hcall
    generalize (x + v + c) / 4294967296 = c' at d1 hcall hc'
    have e := lm_set3 (A := A) (o := o) (Z := Z) (k := i) (d := d) hA (by omega)
    have l1 : (i : Int) < (n : Int) + 1 := by omega
    simp [stepB, F_natural_step, B.loops, go_sem, h0, h1, h5, h7, h14, h130, h131, h132, hlt, gH, gD, gS, e, hcall, -Int.natCast_add, -Int.natCast_mul, w1, i1, i2, l1]
    exact ⟨by omega, by simp [lm_len]; omega, n - (i + 1), by omega, i + 1, o.set i d, c', rfl, by omega, rfl, by simp [go_sem, h0], by simp [go_sem, h1], by simp [go_sem, h5], by simp [go_sem, h7], by simp [go_sem], by simp [go_sem, h130], by simp [go_sem, h131], by simp [go_sem], by simp [hol], limbs_set ho d2,
      fun j hj => by rw [List.getElem?_set, if_neg (by omega)]; exact hsame j (by omega), hc', by rw [lv_take_set (by omega), tD, tW, Nat.pow_succ]; exact add_inv hinv d1⟩
  · have hi' : i = n := by omega
    subst hi'
    rw [List.take_of_length_le (l := D) (by omega)] at hinv
    simp [stepB, F_natural_step, B.loops, go_sem, h0, h1, h5, h7, h14, h130, h131, h132]
    exact hR _ o c (by simp [go_sem, h0]) (by simp [go_sem, h5]) (by simp [go_sem, h7]) (by simp [go_sem, h14]) hol ho (hsame _ (Nat.le_refl _)) hc hinv
end Go.Proofs.Vm
/-! The package natural: step. -/
namespace Go.Proofs.Vm
open Go Go.Proofs.Na

theorem lv_top3 {l : List Nat} {n : Nat} (h2 : 2 ≤ n) (h : l.length = n + 1) : lv l = ((l.getD n 0 * BB + l.getD (n - 1) 0) * BB + l.getD (n - 2) 0) * BB ^ (n - 2) + lv (l.take (n - 2)) := by
  rw [lv_split l (n - 2) (by omega), lv_dropD l (n - 2), lv_dropD l (n - 2 + 1), lv_dropD l (n - 2 + 1 + 1), List.drop_of_length_le (show l.length ≤ n - 2 + 1 + 1 + 1 by omega)]
  rw [show n - 2 + 1 + 1 = n by omega, show n - 2 + 1 = n - 1 by omega]
  simp only [lv]; grind
theorem lv_top2 {l : List Nat} {n : Nat} (h2 : 2 ≤ n) (h : l.length = n) : lv l = (l.getD (n - 1) 0 * BB + l.getD (n - 2) 0) * BB ^ (n - 2) + lv (l.take (n - 2)) := by
  rw [lv_split l (n - 2) (by omega), lv_dropD l (n - 2), lv_dropD l (n - 2 + 1), List.drop_of_length_le (show l.length ≤ n - 2 + 1 + 1 by omega)]
  rw [show n - 2 + 1 = n - 1 by omega]
  simp only [lv]; grind
theorem getD_some {l : List Nat} {i : Nat} (h : i < l.length) : l[i]? = some (l.getD i 0) := by
  rw [List.getD_eq_getElem?_getD, List.getElem?_eq_getElem h]; rfl

/-- What comes of the subtraction. -/
theorem step_end {o' W D q dg b' M : Nat} (hdg : dg = W / D) (hD : 0 < D) (h1 : dg ≤ q) (h2 : q ≤ dg + 1) (hlt : o' < M) (hb : b' ≤ 1) (h : o' + q * D = W + b' * M) : (b' = 0 → q = dg ∧ o' = W % D) ∧ (b' ≠ 0 → q = dg + 1 ∧ o' + D = M + W % D) := by
  have hm := Nat.mod_add_div W D
  rw [← hdg] at hm
  refine ⟨fun e => ?_, fun e => ?_⟩
  · subst e
    have : q ≤ dg := by
      rw [hdg, Nat.le_div_iff_mul_le hD]; omega
    have e2 : q = dg := by omega
    subst e2
    refine ⟨rfl, ?_⟩
    rw [Nat.mul_comm] at hm; omega
  · have e1 : b' = 1 := by omega
    subst e1
    have : q ≠ dg := fun e => by
      subst e
      rw [Nat.mul_comm] at hm; omega
    have e2 : q = dg + 1 := by omega
    subst e2
    refine ⟨rfl, ?_⟩
    rw [Nat.add_mul, Nat.mul_comm dg] at h; omega

theorem c_step' {Hp : List Nat → List O} {A Z W D : List Nat} {h h2 off n : Nat}
    (gH : ∀ o, (Hp o)[h]? = some (.cells (lm (A ++ (o ++ Z))) ty_uint32 1)) (gD : ∀ o, (Hp o)[h2]? = some (.cells (lm D) ty_uint32 1)) (gS : ∀ o o', (Hp o).set h (.cells (lm (A ++ (o' ++ Z))) ty_uint32 1) = Hp o')
    (hA : A.length = off) (hW : W.length = n + 1) (hDn : D.length = n) (hWl : Limbs W) (hDl : Limbs D) (hn : 2 ≤ n) (hnl : n ≤ 17179869184) (half : BB ≤ 2 * D.getD (n - 1) 0) (hfit : lv W < lv D * BB) (K : V → List O → Prop) :
    Fx D0 fn_natural_step [.osl h off (n + 1), .osl h2 0 n] (Hp W) K = K (u32 (lv W / lv D)) (Hp (ln (n + 1) (lv W % lv D))) := by
  refine Fx_is ?_ K
  refine Fx_of d_natural_step ?_
  have hBB : BB = 4294967296 := rfl
  have b3 := getD_limb hWl n
  have b2 := getD_limb hWl (n - 1)
  have b1 := getD_limb hWl (n - 2)
  have a1 := getD_limb hDl (n - 1)
  have a2 := getD_limb hDl (n - 2)
  have eW := lv_top3 hn hW
  have eD := lv_top2 hn hDn
  have s3 := getD_some (l := W) (i := n) (by omega)
  have s2 := getD_some (l := W) (i := n - 1) (by omega)
  have s1 := getD_some (l := W) (i := n - 2) (by omega)
  have t1 := getD_some (l := D) (i := n - 1) (by omega)
  have t2 := getD_some (l := D) (i := n - 2) (by omega)
  have ku := lv_take_lt hWl (i := n - 2) (by omega)
  have kd := lv_take_lt hDl (i := n - 2) (by omega)
  generalize W.getD n 0 = w0 at *
  generalize W.getD (n - 1) 0 = w1 at *
  generalize W.getD (n - 2) 0 = w2 at *
  generalize D.getD (n - 1) 0 = d1 at *
  generalize D.getD (n - 2) 0 = d2 at *
  have G : Guess (w0 * BB + w1) w2 (lv (W.take (n - 2))) d1 d2 (lv (D.take (n - 2))) (BB ^ (n - 2)) := ⟨b1, a2, a1, ku, kd, half, by rw [← eW, ← eD]; exact hfit⟩
  have hdig : G.digit = lv W / lv D := by unfold Guess.digit; rw [← eW, ← eD]
  have hDpos : 0 < lv D := by rw [eD]; exact G.dpos
  have hd1 : 0 < d1 := by omega
  obtain ⟨top, htop⟩ : ∃ top, top = w0 * BB + w1 := ⟨_, rfl⟩
  have htl : top < 18446744073709551616 := by rw [htop, hBB]; omega
  have hq0 : top / d1 ≤ 4294967297 := by
    have h1 := G.top_le
    rw [← htop] at h1
    rw [← Nat.lt_add_one_iff, Nat.div_lt_iff_lt_mul hd1]
    have h3 : d1 * BB + BB ≤ 4294967298 * d1 := by rw [hBB] at *; omega
    omega
  have hr0 := Nat.mod_lt top hd1
  have hqr := Nat.mod_add_div top d1
  have hdg0 : G.digit ≤ top / d1 := by rw [htop]; exact G.first hd1
  obtain ⟨q0, hq0e⟩ : ∃ q0, q0 = top / d1 := ⟨_, rfl⟩
  obtain ⟨r0, hr0e⟩ : ∃ r0, r0 = top % d1 := ⟨_, rfl⟩
  rw [← hq0e] at hq0 hqr hdg0
  rw [← hr0e] at hr0 hqr
  have v1 : IntKind.i64.wrap ((n : Int) - 1) = ((n - 1 : Nat) : Int) := by rw [wi (by omega) (by omega)]; omega
  have v2 : IntKind.u64.wrap (w0 : Int) = (w0 : Int) := by rw [w64 (by omega) (by omega)]
  have v3 : IntKind.u64.wrap (w1 : Int) = (w1 : Int) := by rw [w64 (by omega) (by omega)]
  have v4 : IntKind.u64.wrap (d1 : Int) = (d1 : Int) := by rw [w64 (by omega) (by omega)]
  have v5 : IntKind.u64.wrap ((w0 : Int) * 4294967296) = ((w0 * 4294967296 : Nat) : Int) := by rw [w64 (by omega) (by omega)]; omega
  have v6 : bits .or .u64 ((w0 * 4294967296 : Nat) : Int) (w1 : Int) = (top : Int) := by rw [shl_or (by omega) (by omega), htop, hBB]
  have v7 : IntKind.u64.wrap ((top : Int) / (d1 : Int)) = (q0 : Int) := by rw [← Int.natCast_ediv, ← hq0e, w64 (by omega) (by omega)]
  have v8 : (top : Int).tmod (d1 : Int) = (r0 : Int) := by rw [tmodN, ← hr0e]
  have i1 : (lm D)[n - 1]? = some (u32 d1) := by simp [lm, t1]
  have i2 := lm_get3 (Z := Z) hA s3
  have i3 := lm_get3 (Z := Z) hA s2
  have l1 : n - 1 < n := by omega
  have l2 : n - 1 < n + 1 := by omega
  have l2' : ((n - 1 : Nat) : Int) < (n : Int) + 1 := by omega
  have l3' : (n : Int) < (n : Int) + 1 := by omega
  have hd10 : ¬ d1 = 0 := by omega
  simp [F_natural_step, go_sem, gH, gD, -Int.natCast_mul, -Int.natCast_ediv, -Int.natCast_emod, v1, v2, v3, v4, v5, v6, v7, v8, i1, i2, i3, l1, l2, l2', l3', hd10]
  have g3 : (A ++ (W ++ Z))[off + (n - 2)]? = some w2 := by
    rw [← hA, List.getElem?_append_right (by omega), Nat.add_sub_cancel_left, List.getElem?_append_left (by omega)]; exact s1
  refine guess_loop (h := h) (h2 := h2) (off := off) (q0 := q0) (r0 := r0) G hn hnl (gH W) (gD W) t1 t2 g3 rfl rfl rfl rfl rfl (by rw [← htop, ← hqr, Nat.mul_comm]; omega) hdg0 hq0 (by omega) fun s' q p0 p1 p5 p7 hqB hq1 hq2 => ?_
  rw [hdig] at hq1 hq2
  have hlD : lenV (.osl h2 0 n) = some n := rfl
  simp [go_sem, p0, p1, p5, p7]
  refine msub_loop (h := h) (h2 := h2) (off := off) (n := n) (q := q) gH gD gS hA hW hDn hWl hDl hqB hnl (by simp [go_sem, p0]) (by simp [go_sem, p1]) (by simp [go_sem, p5]) (by simp [go_sem, p7]) (by simp [go_sem]) (by simp [go_sem]) (by simp [go_sem]) (by simp [go_sem]) (by simp [go_sem])
    fun s'' o c b r0' r1 r5 r7 r9 r10 hol ho hon hc hb hinv => ?_
  clear p0 p1 p5 p7
  rw [s3] at hon
  have j1 := lm_get3 (Z := Z) hA hon
  have x1 : IntKind.u32.wrap (c : Int) = (c : Int) := by rw [w32 (by omega) (by omega)]
  obtain ⟨e1, e2⟩ := sub_digit b3 hc hb
  have hcall := fun K X => c_sub32 (K := K) (H := X) (a := w0) (b := c) (c := b) (by omega) (by omega) hb
  generalize (w0 + 4294967296 - c + (4294967296 - b)) % 4294967296 = d at e1 e2 hcall
  have hb' : (if w0 < c + b then 1 else 0) ≤ 1 := by split <;> omega
  generalize (if w0 < c + b then 1 else 0) = b' at e1 hcall hb'
  have j2 := lm_set3 (A := A) (o := o) (Z := Z) (k := n) (d := d) hA (by omega)
  -- the whole
  have hW' : lv W = lv (W.take n) + BB ^ n * w0 := by
    have := lv_take_succ (l := W) (i := n) (by omega)
    rw [List.take_of_length_le (by omega)] at this
    rw [this]
    congr 2
    rw [List.getElem?_eq_getElem (by omega)] at s3
    exact Option.some.inj s3
  have ho1 := limbs_set ho (i := n) e2
  have hol1 : (o.set n d).length = n + 1 := by simp [hol]
  have hlo : lv (o.set n d) = lv (o.take n) + BB ^ n * d := by
    have := lv_take_set (l := o) (i := n) (x := d) (by omega)
    rwa [List.take_of_length_le (by simp; omega)] at this
  have hsum : lv (o.set n d) + q * lv D = lv W + b' * BB ^ (n + 1) := by
    have h1 := congrArg (BB ^ n * ·) e1
    simp only [Nat.mul_add] at h1
    have h2 : BB ^ n * (b' * BB) = b' * BB ^ (n + 1) := by rw [Nat.pow_succ]; grind
    have h3 : (b + c) * BB ^ n = BB ^ n * b + BB ^ n * c := by grind
    rw [hlo, hW']; omega
  have hlt := lv_lt ho1
  rw [hol1] at hlt
  obtain ⟨k1, k2⟩ := step_end rfl hDpos hq1 hq2 hlt hb' hsum
  have l4 : off + n < (A ++ (o ++ Z)).length := by simp; omega
  by_cases hz : b' = 0
  · obtain ⟨rfl, hr⟩ := k1 hz
    subst hz
    have hq32 : IntKind.u32.wrap ((lv W / lv D : Nat) : Int) = ((lv W / lv D : Nat) : Int) := by
      generalize lv W / lv D = z at hqB
      rw [w32 (by omega) (by omega)]
    simp [go_sem, r0', r1, r5, r7, r9, r10, gH, gD, gS, x1, j1, j2, hcall, -Int.natCast_ediv, hq32]
    exact ⟨by omega, by simp [lm_len]; omega, by rw [lv_uniq ho1 hol1 hr]⟩
  · obtain ⟨hqe, hback⟩ := k2 hz
    have hb1 : b' = 1 := by omega
    subst hb1
    simp [go_sem, r0', r1, r5, r7, r9, r10, gH, gD, gS, x1, j1, j2, hcall]
    refine ⟨by omega, by simp [lm_len]; omega, ?_⟩
    refine back_loop (h := h) (h2 := h2) (off := off) (n := n) (q := q) gH gD gS hA hol1 hDn ho1 hDl hnl (by simp [go_sem, r0']) (by simp [go_sem, r1]) (by simp [go_sem, r5]) (by simp [go_sem, r7]) (by simp [go_sem]) (by simp [go_sem]) (by simp [go_sem]) (by simp [go_sem])
      fun s3' o3 c3 z0 z5 z7 z14 hol3 ho3 hon3 hc3 hinv3 => ?_
    have hon3' : o3[n]? = some d := by rw [hon3, List.getElem?_set_self (by omega)]
    have j3 := lm_get3 (Z := Z) hA hon3'
    obtain ⟨f1, f2, f3⟩ := add_digit (x := d) (y := c3) (c := 0) e2 (by omega) (by omega)
    rw [Nat.add_zero] at f1 f2 f3
    have x2 : IntKind.u32.wrap ((d : Int) + (c3 : Int)) = (((d + c3) % 4294967296 : Nat) : Int) := by rw [w32m]; omega
    generalize (d + c3) % 4294967296 = e at f1 f2 x2
    generalize (d + c3) / 4294967296 = z at f1 f3
    have j4 := lm_set3 (A := A) (o := o3) (Z := Z) (k := n) (d := e) hA (by omega)
    have ho4 := limbs_set ho3 (i := n) f2
    have hol4 : (o3.set n e).length = n + 1 := by simp [hol3]
    have hlt4 := lv_lt ho4
    rw [hol4] at hlt4
    have hlo4 : lv (o3.set n e) = lv (o3.take n) + BB ^ n * e := by
      have := lv_take_set (l := o3) (i := n) (x := e) (by omega)
      rwa [List.take_of_length_le (by simp; omega)] at this
    have htk : lv ((o.set n d).take n) = lv (o.take n) := by rw [take_set_ge]
    have hr4 : lv (o3.set n e) = lv W % lv D := by
      have h1 := congrArg (BB ^ n * ·) f1
      simp only [Nat.mul_add] at h1
      have h2 : BB ^ n * (z * BB) = z * BB ^ (n + 1) := by rw [Nat.pow_succ]; grind
      have h3 : c3 * BB ^ n = BB ^ n * c3 := Nat.mul_comm _ _
      have h4 := Nat.mod_lt (lv W) hDpos
      have h5 : lv (o3.set n e) + z * BB ^ (n + 1) = BB ^ (n + 1) + lv W % lv D := by rw [htk] at hinv3; omega
      have hzz : z = 0 ∨ z = 1 := by omega
      rcases hzz with rfl | rfl <;> omega
    have x3 : IntKind.u64.wrap ((q : Int) - 1) = ((lv W / lv D : Nat) : Int) := by
      rw [hqe]
      generalize lv W / lv D = y at hqe
      rw [w64 (by omega) (by omega)]; omega
    have x4 : IntKind.u32.wrap ((lv W / lv D : Nat) : Int) = ((lv W / lv D : Nat) : Int) := by
      generalize lv W / lv D = y at hqe
      rw [w32 (by omega) (by omega)]
    simp [go_sem, z0, z5, z7, z14, gH, gD, gS, x2, j3, j4, -Int.natCast_ediv, x3, x4]
    exact ⟨by omega, by simp [lm_len]; omega, by rw [lv_uniq ho4 hol4 hr4]⟩
end Go.Proofs.Vm
/-! The package natural: divide. -/
namespace Go.Proofs.Vm
open Go Go.Proofs.Na

/-- The same over any heap. -/
theorem c_step {X : List O} {A Z W D : List Nat} {h h2 off n : Nat}
    (gH : X[h]? = some (.cells (lm (A ++ (W ++ Z))) ty_uint32 1)) (gD : X[h2]? = some (.cells (lm D) ty_uint32 1)) (hne : h ≠ h2)
    (hA : A.length = off) (hW : W.length = n + 1) (hDn : D.length = n) (hWl : Limbs W) (hDl : Limbs D) (hn : 2 ≤ n) (hnl : n ≤ 17179869184) (half : BB ≤ 2 * D.getD (n - 1) 0) (hfit : lv W < lv D * BB) (K : V → List O → Prop) :
    Fx D0 fn_natural_step [.osl h off (n + 1), .osl h2 0 n] X K = K (u32 (lv W / lv D)) (X.set h (.cells (lm (A ++ (ln (n + 1) (lv W % lv D) ++ Z))) ty_uint32 1)) := by
  obtain ⟨hlt, hge⟩ := List.getElem?_eq_some_iff.1 gH
  have e : X.set h (.cells (lm (A ++ (W ++ Z))) ty_uint32 1) = X := by rw [← hge, List.set_getElem_self]
  have := c_step' (Hp := fun o => X.set h (.cells (lm (A ++ (o ++ Z))) ty_uint32 1)) (A := A) (Z := Z) (W := W) (D := D) (h := h) (h2 := h2) (off := off) (n := n)
    (fun o => by rw [List.getElem?_set_self hlt]) (fun o => by rw [List.getElem?_set, if_neg hne]; exact gD) (fun o o' => by rw [List.set_set]) hA hW hDn hWl hDl hn hnl half hfit K
  simp only [e] at this
  exact this

theorem slc_sub {H : List O} {K : V → List O → Prop} {h off len a b : Nat} {L : List V} {t : TypeId} {q : IntKind} (hh : H[h]? = some (.cells L t 1)) (hab : a < b) (hb : b ≤ len) :
    slcK 1 (.osl h off len) (some (.lit (.int q a))) (some (.lit (.int q b))) none H K = K (.osl h (off + a) (b - a)) H := by
  have hs : szO H h = some 1 := by simp [szO, getO, hh]
  have h1 : ¬ ((a : Int) = (b : Int) ∧ (a : Int) ≠ 0) := fun h => by omega
  have h2 : (0 : Int) ≤ a ∧ (a : Int) ≤ b ∧ (b : Int) ≤ len := by omega
  simp only [slcK, Option.map_some, Option.map_none, wpI, evI, lenV, Opd.ev, optI]
  have e1 : off + ((a : Int)).toNat * 1 = off + a := by simp
  have e2 : ((b : Int) - (a : Int)).toNat = b - a := by omega
  rw [e1, e2]
  apply propext
  exact ⟨fun h => (h.2.2 h1).2, fun h => ⟨h2, fun h' => absurd h' h1, fun _ => ⟨.inr hs, h⟩⟩⟩

/-- The divisor, shifted. -/
theorem norm_div {y by_ n : Nat} (hy : (lb y).length = n) (hn : 1 ≤ n) (hby : by_ ≤ 31) (h1 : 2147483648 ≤ (lb y).getD (n - 1) 0 * 2 ^ by_) (h2 : (lb y).getD (n - 1) 0 * 2 ^ by_ < 4294967296) :
    y * 2 ^ by_ < BB ^ n ∧ lv (ln n (y * 2 ^ by_)) = y * 2 ^ by_ ∧ BB ≤ 2 * (ln n (y * 2 ^ by_)).getD (n - 1) 0 ∧ BB ^ n ≤ 2 * (y * 2 ^ by_) := by
  have hl := lb_limbs y
  have e0 := lv_split (lb y) (n - 1) (by omega)
  have e1 := lv_take_lt hl (i := n - 1) (by omega)
  rw [lv_lb, lv_dropD, List.drop_of_length_le (show (lb y).length ≤ n - 1 + 1 by omega)] at e0
  simp only [lv, Nat.mul_zero, Nat.add_zero] at e0
  generalize (lb y).getD (n - 1) 0 = t at *
  have hpn : BB ^ n = BB ^ (n - 1) * BB := by rw [← Nat.pow_succ, show (n - 1).succ = n by omega]
  have hP : 0 < BB ^ (n - 1) := Nat.pow_pos BB_pos
  have hB := two_split hby
  -- (t + 1) P <= BB
  have h3 : (t + 1) * 2 ^ by_ ≤ BB := by
    have : t < 2 ^ (32 - by_) := by
      rcases Nat.lt_or_ge t (2 ^ (32 - by_)) with h | h
      · exact h
      · have := Nat.mul_le_mul_right (2 ^ by_) h
        rw [Nat.mul_comm, ← hB] at this
        unfold BB at this; omega
    rw [hB, Nat.mul_comm (2 ^ by_)]
    exact Nat.mul_le_mul_right _ this
  have h4 : y * 2 ^ by_ < BB ^ n := by
    have h5 : y < BB ^ (n - 1) * (t + 1) := by rw [Nat.mul_add]; omega
    have h6 := Nat.mul_lt_mul_of_pos_right h5 (Nat.pow_pos (n := by_) (show 0 < 2 by omega))
    have h7 := Nat.mul_le_mul_left (BB ^ (n - 1)) h3
    rw [Nat.mul_assoc] at h6
    rw [hpn]; omega
  have h5 : BB ^ (n - 1) * (t * 2 ^ by_) ≤ y * 2 ^ by_ := by
    rw [← Nat.mul_assoc]; exact Nat.mul_le_mul_right _ (by omega)
  refine ⟨h4, by rw [lv_ln, Nat.mod_eq_of_lt h4], ?_, ?_⟩
  · rw [getD_at (by rw [ln_len]; omega), ln_get]
    have h6 : t * 2 ^ by_ ≤ y * 2 ^ by_ / BB ^ (n - 1) := by
      rw [Nat.le_div_iff_mul_le hP, Nat.mul_comm]; exact h5
    have h7 : y * 2 ^ by_ / BB ^ (n - 1) < BB := by
      rw [Nat.div_lt_iff_lt_mul hP, Nat.mul_comm BB]; rw [hpn] at h4; exact h4
    rw [Nat.mod_eq_of_lt h7]
    have hBB : BB = 4294967296 := rfl
    omega
  · have h6 : BB ≤ 2 * (t * 2 ^ by_) := by unfold BB; omega
    have := Nat.mul_le_mul_left (BB ^ (n - 1)) h6
    rw [hpn]
    have e : BB ^ (n - 1) * (2 * (t * 2 ^ by_)) = 2 * (BB ^ (n - 1) * (t * 2 ^ by_)) := by grind
    omega

/-- A digit of the quotient more. -/
theorem div_digit {U Q : List Nat} {D x i n m : Nat} (hU : U.length = m + 1) (hUl : Limbs U) (hQl : Limbs Q) (hin : i + n ≤ m) (hiQ : i < Q.length) (hD : 0 < D) (hDn : D < BB ^ n) (htop : lv (U.drop (i + 1)) < D) (hQi : Q[i]? = some 0) (hinv : lv Q * D + lv U = x) :
    lv ((U.drop i).take (n + 1)) < D * BB ∧ ∀ U', U' = U.take i ++ (ln (n + 1) (lv ((U.drop i).take (n + 1)) % D) ++ U.drop (i + n + 1)) → lv (U'.drop i) < D ∧ lv (Q.set i (lv ((U.drop i).take (n + 1)) / D)) * D + lv U' = x := by
  have hi : i < U.length := by omega
  have h1 : lv (U.drop i) < D * BB := by
    rw [lv_drop hi]
    have h2 := hUl _ (List.getElem_mem hi)
    have h3 : BB * (lv (U.drop (i + 1)) + 1) ≤ BB * D := Nat.mul_le_mul_left _ htop
    rw [Nat.mul_add] at h3
    rw [Nat.mul_comm D]; omega
  have h2 := lv_split (U.drop i) (n + 1) (by simp; omega)
  rw [List.drop_drop] at h2
  have hz : lv (U.drop (i + (n + 1))) = 0 := by
    rcases Nat.eq_zero_or_pos (lv (U.drop (i + (n + 1)))) with h | h
    · exact h
    · exfalso
      have h3 : D * BB < BB ^ (n + 1) := by rw [Nat.pow_succ]; exact Nat.mul_lt_mul_of_pos_right hDn BB_pos
      have h4 := Nat.mul_le_mul_left (BB ^ (n + 1)) h
      omega
  rw [hz, Nat.mul_zero, Nat.add_zero] at h2
  rw [← h2]
  refine ⟨h1, fun U' hU' => ?_⟩
  generalize hw : lv (U.drop i) = w at *
  have hr := Nat.mod_lt w hD
  have hrB : w % D < BB ^ (n + 1) := by
    have : BB ^ n ≤ BB ^ (n + 1) := Nat.pow_le_pow_right BB_pos (by omega)
    omega
  have h5 : lv (U'.drop i) = w % D := by
    rw [hU', List.drop_append, List.drop_of_length_le (by simp; omega)]
    simp only [List.length_take, Nat.min_eq_left (Nat.le_of_lt hi), Nat.sub_self, List.drop_zero, List.nil_append]
    rw [lv_append, lv_ln, Nat.mod_eq_of_lt hrB, show i + n + 1 = i + (n + 1) by omega, hz, Nat.mul_zero, Nat.add_zero]
  refine ⟨by rw [h5]; exact hr, ?_⟩
  have h6 : lv U' = lv (U.take i) + BB ^ i * (w % D) := by
    have hlen : i ≤ U'.length := by rw [hU']; simp; omega
    rw [lv_split U' i hlen, h5, hU', List.take_left' (by simp; omega)]
  have h7 := lv_split U i (by omega)
  rw [hw] at h7
  obtain ⟨_, hq0⟩ := List.getElem?_eq_some_iff.1 hQi
  have h8 := lv_set (x := w / D) hiQ
  rw [hq0, Nat.mul_zero, Nat.add_zero] at h8
  have h9 := congrArg (BB ^ i * ·) (Nat.mod_add_div w D)
  simp only [Nat.mul_add] at h9
  rw [h8, h6, Nat.add_mul, ← hinv, h7]
  have h10 : BB ^ i * (w / D) * D = BB ^ i * (D * (w / D)) := by grind
  omega

def divI (D : List Nat) (X0 n m by_ : Nat) (v w : V) (k : Nat) (s : Nat → V) (Y : List O) : Prop :=
  ∃ U Q, k ≤ m - n + 1 ∧ Y = [.cells (lm D) ty_uint32 1, .cells (lm U) ty_uint32 1, .cells (lm Q) ty_uint32 1] ∧ s 8 = u64 by_ ∧ s 9 = .int (n : Int) ∧ s 10 = .osl 0 0 n ∧ s 11 = .osl 1 0 (m + 1) ∧ s 12 = .osl 2 0 (m - n + 1) ∧ s 13 = .int ((k : Int) - 1) ∧
    U.length = m + 1 ∧ Limbs U ∧ Q.length = m - n + 1 ∧ Limbs Q ∧ lv (U.drop k) < lv D ∧ (∀ j, j < k → Q[j]? = some 0) ∧ lv Q * lv D + lv U = X0
theorem c_divide {x y : Nat} (hy0 : y ≠ 0) (hx : (lb x).length ≤ 67108864) (hy : (lb y).length ≤ 67108864) {H : List O} (K : V → List O → Prop) :
    Fx D0 fn_natural_divide [LV (lb x), LV (lb y)] H K = K (.tup [if x < y then .nils else LV (lb (x / y)), LV (lb (x % y))]) H := by
  refine Fx_is ?_ K
  have has : [LV (lb x), LV (lb y)].mapM (frz H depth) = some [LV (lb x), LV (lb y)] := rfl
  refine Fx_ofp d_natural_divide has ?_
  have hlx := len_s (LV_SL (H := []) (lb x))
  have hly := len_s (LV_SL (H := []) (lb y))
  have p1 := fun K X => c_compare (K := K) (H := X) (LV_SL (H := X) (lb x)) (LV_SL (lb y)) (by omega) (by omega)
  have o1 : ∀ (H : List O) l, out H 11 (LV l) = some (LV l) := fun H l => out1_fsl
  by_cases hlt : x < y
  · have hs : sg x y < 0 := by unfold sg; rw [if_pos hlt]; omega
    simp [go_sem, F_natural_divide, p1, hs, hlt, o1, Nat.mod_eq_of_lt hlt]
  · have hs : ¬ sg x y < 0 := by unfold sg; rw [if_neg hlt]; split <;> omega
    have hnm : (lb y).length ≤ (lb x).length := lb_len.2 (Nat.lt_of_le_of_lt (Nat.not_lt.1 hlt) (lb_len.1 (Nat.le_refl _)))
    have hn1 : 1 ≤ (lb y).length := by
      rw [lb_pos hy0]; simp
    have hbx := lb_limbs x
    have hby := lb_limbs y
    by_cases hone : (lb y).length = 1
    · -- one limb
      have e : lb y = [y] := by
        have h1 := lv_lb y
        match hq : lb y, hone with
        | [z], _ =>
          rw [hq] at h1
          simp [lv] at h1
          rw [h1]
      have hyB : y < BB := by have := hby y (by rw [e]; simp); exact this
      have w1 := fun K X => ia_s (K := K) (q := .i64) (n := 0) (LV_SL (H := X) (lb y)) (by omega) (by omega)
      have w2 := fun K X => ld_s (K := K) (i := 0) (k := 0) (LV_SL (H := X) (lb y)) (by simp [lm_len]; omega)
      have e2 : (lm (lb y))[0]? = some (u32 y) := by rw [e]; rfl
      have p2 := fun K X => c_divideSmall (K := K) (H := X) (LV_SL (H := X) (lb x)) hbx (by omega) hyB (by omega)
      rw [lv_lb] at p2
      have hr := Nat.mod_lt x (show 0 < y by omega)
      have hrl : Limbs [x % y] := fun z hz => by simp at hz; omega
      have hs2 := own_SL (H := [.cells (lm [x % y]) ty_uint32 1]) (h := 0) (o := [x % y]) (t := ty_uint32) rfl (Nat.le_refl _)
      rw [List.take_length] at hs2
      have p3 := fun K => c_trim (K := K) hs2 (by simp)
      have hout := out1_lm (H := [.cells (lm [x % y]) ty_uint32 1]) (h := 0) (o := [x % y]) (t := ty_uint32) rfl (trimN_le _)
      rw [take_trim hrl, show lv [x % y] = x % y by simp [lv]] at hout
      simp [lm] at p3 hout
      simp [lm_get, e] at w1 w2
      have hone' : ((lb y).length : Int) = 1 := by omega
      simp [e] at p2 p1
      have hly1 : lenV (LV [y]) = some 1 := rfl
      simp [go_sem, F_natural_divide, p1, hs, hlt, hly1, e, w1, w2, p2, -Int.natCast_emod]
      refine (p3 _).2 ?_
      simp [go_sem, takeV, hout, o1]
    · -- long division
      obtain ⟨n, hn⟩ : ∃ n, n = (lb y).length := ⟨_, rfl⟩
      obtain ⟨m, hm⟩ : ∃ m, m = (lb x).length := ⟨_, rfl⟩
      rw [← hn] at hly hn1 hnm hy hone
      rw [← hm] at hlx hnm hx
      have hn2 : 2 ≤ n := by omega
      have htl := getD_limb hby (n - 1)
      have ht1 : 1 ≤ (lb y).getD (n - 1) 0 := by
        rw [getD_at (by omega)]
        have := lb_tidy y (by omega)
        simp only [← hn] at this; omega
      obtain ⟨nz, hnz, hz1, hz2, hlz⟩ := c_lz ht1 htl
      obtain ⟨f1, f2, f3, f4⟩ := norm_div hn.symm hn1 hnz hz1 hz2
      have hxm : x < BB ^ m := lb_len.1 (Nat.le_of_eq hm.symm)
      have hP31 : 2 ^ nz ≤ 2147483648 := by rw [show 2147483648 = 2 ^ 31 from rfl]; exact Nat.pow_le_pow_right (by omega) hnz
      have hP0 : 0 < 2 ^ nz := Nat.pow_pos (by omega)
      have g1 : 2 * (x * 2 ^ nz) < BB ^ (m + 1) := by
        have h1 : x * 2 ^ nz < BB ^ m * 2147483648 := Nat.lt_of_lt_of_le (Nat.mul_lt_mul_of_pos_right hxm hP0) (Nat.mul_le_mul_left _ hP31)
        rw [Nat.pow_succ, show BB = 2 * 2147483648 from rfl] at *
        have : (2 * 2147483648) ^ m * (2 * 2147483648) = 2 * ((2 * 2147483648) ^ m * 2147483648) := by grind
        omega
      have p4 := fun K X => hlz X K
      have w1 := fun K X => ia_s (K := K) (q := .i64) (n := ((n - 1 : Nat) : Int)) (LV_SL (H := X) (lb y)) (by omega) (by omega)
      have w2 := fun K X => ld_s (K := K) (i := n - 1) (k := 0) (LV_SL (H := X) (lb y)) (by simp [lm_len]; omega)
      have w3 : (lm (lb y))[n - 1]? = some (u32 ((lb y).getD (n - 1) 0)) := by rw [lm_at (by omega), getD_at (by omega)]
      rw [getD_at (by omega)] at p4
      simp [lm_get] at w1 w2
      have p5 := fun K => c_shift (K := K) (H := []) (by_ := nz) (n := n) (LV_SL (lb y)) hby hnz (by omega) (by rw [lv_lb]; exact f1) (by omega)
      rw [lv_lb] at p5
      have p6 := fun K X => c_shift (K := K) (H := X) (by_ := nz) (n := m + 1) (LV_SL (H := X) (lb x)) hbx hnz (by omega) (by rw [lv_lb]; omega) (by omega)
      rw [lv_lb] at p6
      have hDl := ln_limbs n (y * 2 ^ nz)
      have hDn := ln_len n (y * 2 ^ nz)
      generalize hDe : ln n (y * 2 ^ nz) = D at *
      have hUl := ln_limbs (m + 1) (x * 2 ^ nz)
      have hUn := ln_len (m + 1) (x * 2 ^ nz)
      have hUv : lv (ln (m + 1) (x * 2 ^ nz)) = x * 2 ^ nz := by rw [lv_ln, Nat.mod_eq_of_lt (by omega)]
      generalize hUe : ln (m + 1) (x * 2 ^ nz) = U0 at *
      have v1 : IntKind.i64.wrap ((n : Int) - 1) = ((n - 1 : Nat) : Int) := by rw [wi (by omega) (by omega)]; omega
      have v2 : IntKind.u64.wrap (nz : Int) = (nz : Int) := by rw [w64 (by omega) (by omega)]
      have v3 : IntKind.i64.wrap ((m : Int) + 1) = ((m + 1 : Nat) : Int) := by rw [wi (by omega) (by omega)]; omega
      have v4 : IntKind.i64.wrap ((m : Int) - (n : Int)) = ((m - n : Nat) : Int) := by rw [wi (by omega) (by omega)]; omega
      have v5 : IntKind.i64.wrap (((m - n : Nat) : Int) + 1) = ((m - n + 1 : Nat) : Int) := by rw [wi (by omega) (by omega)]; omega
      have v6 : ((m - n + 1 : Nat) : Int) * 4 ≤ 140737488355328 := by omega
      have v7 : (0 : Int) ≤ ((m - n + 1 : Nat) : Int) := by omega
      have v8 : IntKind.i64.wrap (((m - n + 1 : Nat) : Int) - 1) = ((m - n + 1 : Nat) : Int) - 1 := by rw [wi (by omega) (by omega)]
      have hone' : ((n : Int) == 1) = false := by simp; omega
      simp [go_sem, F_natural_divide, p1, hs, hlt, hlx, hly, hone', -Int.natCast_add, w1, w2, p4, p5, p6, v1, v2, v3, v4, v5, v6, v7, v8, lm_rep]
      rw [rep32]
      have hpw : BB ^ (m + 1) = BB ^ (m - n + 1) * BB ^ n := by rw [← Nat.pow_add, show m - n + 1 + n = m + 1 by omega]
      have hDpos : 0 < lv D := by rw [f2]; exact Nat.mul_pos (by omega) hP0
      have hstart : lv (U0.drop (m - n + 1)) < lv D := by
        have h1 := lv_split U0 (m - n + 1) (by omega)
        rcases Nat.lt_or_ge (lv (U0.drop (m - n + 1))) (lv D) with h | h
        · exact h
        · exfalso
          have h2 := Nat.mul_le_mul_left (BB ^ (m - n + 1)) h
          have h3 := Nat.mul_le_mul_left (BB ^ (m - n + 1)) f4
          rw [← hpw] at h3
          have h4 : BB ^ (m - n + 1) * (2 * (y * 2 ^ nz)) = 2 * (BB ^ (m - n + 1) * lv D) := by rw [f2]; grind
          omega
      refine Bx_rounds (divI D (x * 2 ^ nz) n m nz (LV (lb x)) (LV (lb y))) ?_ (m - n + 1) _ _
        ⟨U0, List.replicate (m - n + 1) 0, Nat.le_refl _, rfl, rfl, rfl, rfl, rfl, rfl, rfl, hUn, hUl, by simp, limbs_zeros _, hstart, fun j hj => by simp [hj], by rw [lv_zeros, hUv]; omega⟩
      clear w1 w2 p4 p5 p6 p1
      rintro k s Y ⟨U, Q, hk, rfl, h8, h9, h10, h11, h12, h13, hUlen, hUl', hQlen, hQl, htop, hQ0, hinv⟩
      refine wpB_ok ?_
      cases k with
      | zero =>
        rw [List.drop_zero] at htop
        have hlU : lv U < BB ^ n := by rw [f2] at htop; omega
        have q1 : lv Q = x / y ∧ lv U = x % y * 2 ^ nz := by
          have h1 : x * 2 ^ nz / lv D = lv Q := by
            rw [← hinv, Nat.mul_comm, Nat.mul_add_div hDpos, Nat.div_eq_of_lt htop]; omega
          have h2 : x * 2 ^ nz % lv D = lv U := by
            rw [← hinv, Nat.mul_comm, Nat.mul_add_mod, Nat.mod_eq_of_lt htop]
          rw [f2, Nat.mul_div_mul_right _ _ hP0] at h1
          rw [f2, Nat.mul_mod_mul_right] at h2
          exact ⟨h1.symm, h2.symm⟩
        have htk : lv (U.take n) = lv U := by
          have h1 := lv_split U n (by omega)
          have h2 : lv (U.drop n) = 0 := by
            rcases Nat.eq_zero_or_pos (lv (U.drop n)) with h | h
            · exact h
            · have := Nat.mul_le_mul_left (BB ^ n) h; omega
          rw [h2] at h1; omega
        have hs1 := own_SL (H := [.cells (lm D) ty_uint32 1, .cells (lm U) ty_uint32 1, .cells (lm Q) ty_uint32 1]) (h := 1) (k := n) (o := U) (t := ty_uint32) rfl (by omega)
        have hs2 := own_SL (H := [.cells (lm D) ty_uint32 1, .cells (lm U) ty_uint32 1, .cells (lm Q) ty_uint32 1]) (h := 2) (o := Q) (t := ty_uint32) rfl (Nat.le_refl _)
        rw [List.take_length, hQlen] at hs2
        have hs3 := own_SL (H := [.cells (lm D) ty_uint32 1, .cells (lm U) ty_uint32 1, .cells (lm Q) ty_uint32 1]) (h := 1) (o := U) (t := ty_uint32) rfl (Nat.le_refl _)
        rw [List.take_length, hUlen] at hs3
        have p3 := fun K => c_trim (K := K) hs2 (by omega)
        have p4 := fun K => c_unshift (K := K) (by_ := nz) hs1 (fun z hz => hUl' z (List.mem_of_mem_take hz)) hnz (by simp; omega)
        rw [htk, q1.2, Nat.mul_div_cancel _ hP0] at p4
        have hout := out1_lm (H := [.cells (lm D) ty_uint32 1, .cells (lm U) ty_uint32 1, .cells (lm Q) ty_uint32 1]) (h := 2) (o := Q) (t := ty_uint32) rfl (trimN_le Q)
        rw [take_trim hQl, q1.1] at hout
        have tk := fun K => take_s (K := K) (q := .i64) (n := (n : Int)) hs3 (by omega)
        simp only [takeV, Int.toNat_natCast] at tk p3
        simp [go_sem, h8, h9, h10, h11, h12, h13, tk, p3, p4, hout, o1, hlt]
      | succ k =>
        have hkk : k < m - n + 1 := by omega
        have hDBn : lv D < BB ^ n := by rw [f2]; exact f1
        obtain ⟨d1, d2⟩ := div_digit hUlen hUl' hQl (show k + n ≤ m by omega) (by omega) hDpos hDBn htop (hQ0 k (by omega)) hinv
        have hUeq : U.take k ++ ((U.drop k).take (n + 1) ++ U.drop (k + n + 1)) = U := by
          have : U.drop (k + n + 1) = (U.drop k).drop (n + 1) := by rw [List.drop_drop]; rfl
          rw [this, List.take_append_drop, List.take_append_drop]
        obtain ⟨W, hWe⟩ : ∃ W, W = (U.drop k).take (n + 1) := ⟨_, rfl⟩
        rw [← hWe] at d1 d2 hUeq
        have hWl : Limbs W := fun z hz => hUl' z (List.mem_of_mem_drop (List.mem_of_mem_take (hWe ▸ hz)))
        have hWn : W.length = n + 1 := by rw [hWe]; simp; omega
        have p7 := fun K => c_step (K := K) (X := [.cells (lm D) ty_uint32 1, .cells (lm U) ty_uint32 1, .cells (lm Q) ty_uint32 1]) (A := U.take k) (Z := U.drop (k + n + 1)) (W := W) (D := D) (h := 1) (h2 := 0) (off := k) (n := n)
          (by rw [hUeq]; rfl) rfl (by omega) (by simp; omega) hWn hDn hWl hDl hn2 (by omega) f3 d1
        obtain ⟨U', hU'⟩ : ∃ U', U' = U.take k ++ (ln (n + 1) (lv W % lv D) ++ U.drop (k + n + 1)) := ⟨_, rfl⟩
        obtain ⟨d3, d4⟩ := d2 U' hU'
        rw [← hU'] at p7
        have hdq : lv W / lv D < BB := Nat.div_lt_of_lt_mul d1
        obtain ⟨dq, hdqe⟩ : ∃ dq, dq = lv W / lv D := ⟨_, rfl⟩
        rw [← hdqe] at p7 d4 hdq
        have hU'l : Limbs U' := fun z hz => by
          rw [hU'] at hz
          rcases List.mem_append.1 hz with h | h
          · exact hUl' z (List.mem_of_mem_take h)
          · rcases List.mem_append.1 h with h | h
            · exact ln_limbs _ _ z h
            · exact hUl' z (List.mem_of_mem_drop h)
        have hU'n : U'.length = m + 1 := by rw [hU']; simp [ln_len]; omega
        have h13 : s 13 = .int (k : Int) := by rw [h13]; congr 3; omega
        have v9 : IntKind.i64.wrap ((k : Int) + (n : Int)) = ((k + n : Nat) : Int) := by rw [wi (by omega) (by omega)]; omega
        have v10 : IntKind.i64.wrap (((k + n : Nat) : Int) + 1) = ((k + n + 1 : Nat) : Int) := by rw [wi (by omega) (by omega)]; omega
        have v11 : IntKind.i64.wrap ((k : Int) - 1) = (k : Int) - 1 := by rw [wi (by omega) (by omega)]
        have sl := fun K => slc_sub (K := K) (H := [.cells (lm D) ty_uint32 1, .cells (lm U) ty_uint32 1, .cells (lm Q) ty_uint32 1]) (h := 1) (off := 0) (len := m + 1) (a := k) (b := k + n + 1) (L := lm U) (t := ty_uint32) (q := .i64) rfl (by omega) (by omega)
        rw [show k + n + 1 - k = n + 1 by omega, Nat.zero_add] at sl
        simp [go_sem, h8, h9, h10, h11, h12, h13, -Int.natCast_add, v9, v10, v11, sl, p7]
        refine ⟨by omega, by simp [lm_len]; omega, k, by omega, U', Q.set k dq, by omega, ?_, by simp [go_sem, h8], by simp [go_sem, h9], by simp [go_sem, h10], by simp [go_sem, h11], by simp [go_sem, h12], by simp [go_sem], hU'n, hU'l, by simp [hQlen], limbs_set hQl hdq, d3, fun j hj => by rw [List.getElem?_set, if_neg (by omega)]; exact hQ0 j (by omega), d4⟩
        rw [← lm_set, ← set_eq (lm Q) _ (by simp [lm_len]; omega)]; simp
end Go.Proofs.Vm
/-! The package natural: GCD, Divide. -/
namespace Go.Proofs.Vm
open Go Go.Proofs.Na

def gcdI (g k : Nat) (y : Nat) (s : Nat → V) (X : List O) : Prop :=
  ∃ x, X = [] ∧ s 5 = LV (lb x) ∧ s 6 = LV (lb y) ∧ (lb x).length ≤ k ∧ (lb y).length ≤ k ∧ Nat.gcd x y = g
theorem c_GCD {a b : List UInt8} (ha : a.length ≤ 16777216) (hb : b.length ≤ 16777216) {H : List O} (K : V → List O → Prop) : Fx D0 fn_natural_GCD [st a, st b] H K = K (st (nbl (Nat.gcd (nv a) (nv b)))) H := by
  have sa := lb_size ha
  have sb := lb_size hb
  refine Fx_is ?_ K
  refine Fx_ofp d_natural_GCD rfl ?_
  have p1 := fun K X => c_parse (K := K) (H := X) (l := a) (by omega)
  have p2 := fun K X => c_parse (K := K) (H := X) (l := b) (by omega)
  simp [go_sem, F_natural_GCD, p1, p2]
  refine Bx_rounds (gcdI (Nat.gcd (nv a) (nv b)) 16777216) ?_ (nv b) _ _ ⟨nv a, rfl, rfl, rfl, sa, sb, rfl⟩
  rintro y s X ⟨x, rfl, h5, h6, hx, hy, hg⟩
  refine wpB_ok ?_
  have hly := len_s (LV_SL (H := []) (lb y))
  by_cases hy0 : y = 0
  · subst hy0
    have p3 := fun K => c_text (K := K) (LV_SL (H := []) (lb x)) (lb_limbs x) (by omega)
    rw [lv_lb] at p3
    have hl0 : lenV (LV (lb 0)) = some 0 := rfl
    rw [Nat.gcd_zero_right] at hg
    subst hg
    simp [go_sem, h5, h6, hl0, p3]
  · have hpos : 0 < (lb y).length := by rw [lb_pos hy0]; simp
    have p4 := fun K => c_divide (K := K) (H := []) hy0 (x := x) (by omega) (by omega)
    simp [go_sem, h5, h6, hly, hpos, p4]
    have hlt := Nat.mod_lt x (show 0 < y by omega)
    refine ⟨x % y, hlt, y, rfl, by simp [go_sem], by simp [go_sem], hy, lb_mono (Nat.le_of_lt hlt) hy, ?_⟩
    rw [← hg, Nat.gcd_comm x y, Nat.gcd_rec y x, Nat.gcd_comm]

theorem c_Divide {a b : List UInt8} (ha : a.length ≤ 16777216) (hb : b.length ≤ 16777216) {H : List O} (K : V → List O → Prop) :
    Fx D0 fn_natural_Divide [st a, st b] H K = K (if nv b = 0 then .tup [st [], st [], .bool false] else .tup [st (nbl (nv a / nv b)), st (nbl (nv a % nv b)), .bool true]) H := by
  have sa := lb_size ha
  have sb := lb_size hb
  refine Fx_is ?_ K
  refine Fx_ofp d_natural_Divide rfl ?_
  have p1 := fun K X => c_parse (K := K) (H := X) (l := a) (by omega)
  have p2 := fun K X => c_parse (K := K) (H := X) (l := b) (by omega)
  have hly := len_s (LV_SL (H := []) (lb (nv b)))
  by_cases hy0 : nv b = 0
  · have hl0 : lenV (LV (lb 0)) = some 0 := rfl
    simp [go_sem, F_natural_Divide, p2, hy0, hl0]
  · have hpos : ¬ (lb (nv b)).length = 0 := by rw [lb_pos hy0]; simp
    have hpos' : (((lb (nv b)).length : Int) == 0) = false := beq_eq_false_iff_ne.2 (by omega)
    have p4 := fun K => c_divide (K := K) (H := []) hy0 (x := nv a) (by omega) (by omega)
    have hq : (lb (nv a / nv b)).length ≤ 16777216 := lb_mono (Nat.div_le_self _ _) sa
    have hr : (lb (nv a % nv b)).length ≤ 16777216 := lb_mono (Nat.mod_le _ _) sa
    have p5 := fun K => c_text (K := K) (LV_SL (H := []) (lb (nv a / nv b))) (lb_limbs _) (by omega)
    have p6 := fun K => c_text (K := K) (LV_SL (H := []) (lb (nv a % nv b))) (lb_limbs _) (by omega)
    have p7 := fun K => c_text (K := K) (H := []) (v := .nils) (l := []) rfl (fun x hx => by simp at hx) (by simp)
    rw [lv_lb] at p5 p6
    by_cases hlt : nv a < nv b
    · simp [hlt] at p4
      have hz : nv a / nv b = 0 := Nat.div_eq_of_lt hlt
      simp only [lv] at p7
      simp [go_sem, F_natural_Divide, p1, p2, hy0, hly, hpos', p4, p6, p7, hz]
    · simp [hlt] at p4
      simp [go_sem, F_natural_Divide, p1, p2, hy0, hly, hpos', p4, p5, p6]
end Go.Proofs.Vm
/-! The package rational: numbers as values; reduced. -/
namespace Go.Proofs.Vm
open Go Go.Proofs.Na

/-- A valid number's value. -/
def rv (q : Rat) : V := .agg [.lit (.bool (decide (q.num < 0))), st (nbl q.num.natAbs), st (if q.den = 1 then [] else nbl q.den)]
def rz : V := .agg [.lit (.bool false), st [], st []]
theorem rv_zero : rv 0 = rz := rfl
theorem nbl_eq_one {n : Nat} : nbl n = [1] ↔ n = 1 := by
  constructor
  · intro h
    have := nv_nbl n
    rw [h] at this
    exact this.symm
  · intro h; subst h; rfl
theorem nbl_eq_nil {n : Nat} : nbl n = [] ↔ n = 0 := by
  constructor
  · intro h
    have := nv_nbl n
    rw [h] at this
    exact this.symm
  · intro h; subst h; rfl
def sgnI (neg : Bool) (n : Nat) : Int := if neg then -(n : Int) else n
theorem sgnI_abs (neg : Bool) (n : Nat) : (sgnI neg n).natAbs = n := by cases neg <;> simp [sgnI]

/-- The parts of a number in lowest terms. -/
theorem mkRat_parts (neg : Bool) {a b : Nat} (hb : b ≠ 0) (ha : a ≠ 0) : rv (mkRat (sgnI neg a) b) = .agg [.lit (.bool neg), st (nbl (a / Nat.gcd a b)), st (if b / Nat.gcd a b = 1 then [] else nbl (b / Nat.gcd a b))] := by
  have hg : 0 < Nat.gcd a b := Nat.gcd_pos_of_pos_left _ (by omega)
  have h1 : (mkRat (sgnI neg a) b).den = b / Nat.gcd a b := by
    rw [Rat.den_mkRat, if_neg hb, sgnI_abs, Nat.gcd_comm]
  have h2 : (mkRat (sgnI neg a) b).num = sgnI neg (a / Nat.gcd a b) := by
    rw [Rat.num_mkRat, if_neg hb, sgnI_abs, Nat.gcd_comm]
    cases neg
    · simp [sgnI]
    · simp only [sgnI, if_true]
      rw [Int.neg_ediv_of_dvd (Int.natCast_dvd_natCast.2 (Nat.gcd_dvd_left a b))]
      simp
  have h3 : 0 < a / Nat.gcd a b := Nat.div_pos (Nat.gcd_le_left _ (by omega)) hg
  unfold rv
  rw [h1, h2, sgnI_abs]
  congr 4
  cases neg
  · simp only [sgnI, Bool.false_eq_true, if_false, decide_eq_false_iff_not]; omega
  · simp only [sgnI, if_true, decide_eq_true_eq]; omega

theorem nbl_size {n k : Nat} {l : List UInt8} (h : n ≤ nv l) (hl : l.length ≤ k) : (nbl n).length ≤ k :=
  nbl_length_le.2 (Nat.lt_of_le_of_lt h (Nat.lt_of_lt_of_le (nv_lt l) (Nat.pow_le_pow_right (by omega) hl)))

theorem c_reduced {neg : Bool} {a b : List UInt8} (ha : a.length ≤ 16777216) (hb : b.length ≤ 16777216) (hb0 : nv b ≠ 0) {H : List O} (K : V → List O → Prop) :
    Fx D0 fn_rational_reduced [.lit (.bool neg), st a, st b] H K = K (rv (mkRat (sgnI neg (nv a)) (nv b))) H := by
  refine Fx_is ?_ K
  refine Fx_ofp d_rational_reduced rfl ?_
  have p1 := fun K X => c_Normalize (K := K) (H := X) (l := a) (by omega)
  have p2 := fun K X => c_Normalize (K := K) (H := X) (l := b) (by omega)
  rw [tidy_eq] at p1 p2
  by_cases ha0 : nv a = 0
  · rw [ha0] at p1
    have e0 : mkRat (sgnI neg (nv a)) (nv b) = 0 := by
      rw [ha0]; cases neg <;> simp [sgnI, Rat.zero_mkRat]
    rw [e0, rv_zero]
    simp [go_sem, F_rational_reduced, p1, p2, seq_st, sne_st, nbl_zero, rz, getO, readV]
  · have e1 : ¬ nbl (nv a) = [] := fun e => ha0 (nbl_eq_nil.1 e)
    have sa := nbl_size (Nat.le_refl (nv a)) ha
    have sb := nbl_size (Nat.le_refl (nv b)) hb
    have p3 := fun K X => c_GCD (K := K) (H := X) sa sb
    simp only [nv_nbl] at p3
    rw [mkRat_parts neg hb0 ha0]
    by_cases hb1 : nv b = 1
    · have e2 : nbl (nv b) = [1] := nbl_eq_one.2 hb1
      have e3 : (nv a).gcd (nv b) = 1 := by rw [hb1, Nat.gcd_one_right]
      have e4 : nv b / 1 = 1 := by rw [hb1]
      rw [e3, e4, Nat.div_one]
      rw [e2] at p2
      simp [go_sem, F_rational_reduced, p1, p2, e1, seq_st, sne_st, getO, readV]
    · have e2 : ¬ nbl (nv b) = [1] := fun e => hb1 (nbl_eq_one.1 e)
      by_cases hg : (nv a).gcd (nv b) = 1
      · rw [hg, Nat.div_one, Nat.div_one, if_neg hb1]
        have e3 : nbl ((nv a).gcd (nv b)) = [1] := nbl_eq_one.2 hg
        rw [e3] at p3
        simp [go_sem, F_rational_reduced, p1, p2, p3, e1, e2, seq_st, sne_st, getO, readV]
      · have e3 : ¬ nbl ((nv a).gcd (nv b)) = [1] := fun e => hg (nbl_eq_one.1 e)
        have hgp : (nv a).gcd (nv b) ≠ 0 := Nat.gcd_ne_zero_left ha0
        have hgl := Nat.gcd_le_left (nv b) (show 0 < nv a by omega)
        have sg' := nbl_size (l := a) hgl ha
        have p4 := fun K X => c_Divide (K := K) (H := X) sa sg'
        have p5 := fun K X => c_Divide (K := K) (H := X) sb sg'
        simp only [nv_nbl, if_neg hgp] at p4 p5
        generalize (nv a).gcd (nv b) = g at *
        by_cases h1 : nv b / g = 1
        · have e4 : nbl (nv b / g) = [1] := nbl_eq_one.2 h1
          rw [if_pos h1]
          rw [e4] at p5
          simp [go_sem, F_rational_reduced, p1, p2, p3, p4, p5, e1, e2, e3, seq_st, sne_st, getO, readV]
        · have e4 : ¬ nbl (nv b / g) = [1] := fun e => h1 (nbl_eq_one.1 e)
          rw [if_neg h1]
          simp [go_sem, F_rational_reduced, p1, p2, p3, p4, p5, e1, e2, e3, e4, seq_st, sne_st, getO, readV]
end Go.Proofs.Vm
/-! The package rational: Valid, clean, Sign. -/
namespace Go.Proofs.Vm
open Go Go.Proofs.Na

/-- A number as it comes. -/
def rw_ (n : Bool) (a b : List UInt8) : V := .agg [.lit (.bool n), st a, st b]
def validB (n : Bool) (a b : List UInt8) : Bool :=
  decide (tidy a = a) && decide (tidy b = b) && (if a = [] then !n && decide (b = []) else decide (b = []) || (!decide (b = [1]) && decide (Nat.gcd (nv a) (nv b) = 1)))
def dec (n : Bool) (a b : List UInt8) : Rat := if validB n a b then mkRat (sgnI n (nv a)) (if b = [] then 1 else nv b) else 0
theorem tidy_fix {l : List UInt8} (h : tidy l = l) : nbl (nv l) = l := by rw [← tidy_eq, h]
theorem valid_rv {n : Bool} {a b : List UInt8} (h : validB n a b = true) : rw_ n a b = rv (dec n a b) := by
  unfold dec
  rw [if_pos h]
  unfold validB at h
  simp only [Bool.and_eq_true, decide_eq_true_eq] at h
  obtain ⟨⟨h1, h2⟩, h3⟩ := h
  have e1 := tidy_fix h1
  have e2 := tidy_fix h2
  by_cases ha : a = []
  · subst ha
    simp only [if_true, Bool.and_eq_true, Bool.not_eq_true', decide_eq_true_eq] at h3
    obtain ⟨rfl, rfl⟩ := h3
    rfl
  · rw [if_neg ha] at h3
    have ha0 : nv a ≠ 0 := fun e => ha (by rw [← e1, e]; rfl)
    by_cases hb : b = []
    · subst hb
      rw [if_pos rfl, mkRat_parts n (by omega) ha0]
      simp [rw_, Nat.gcd_one_right, e1]
    · have hb0 : nv b ≠ 0 := fun e => hb (by rw [← e2, e]; rfl)
      simp only [hb, decide_false, Bool.false_or, Bool.and_eq_true, Bool.not_eq_true', decide_eq_false_iff_not, decide_eq_true_eq] at h3
      obtain ⟨h4, h5⟩ := h3
      rw [if_neg hb, mkRat_parts n hb0 ha0, h5, Nat.div_one, Nat.div_one]
      have h6 : ¬ nv b = 1 := fun e => h4 (by rw [← e2, e]; rfl)
      rw [if_neg h6, e1, e2]; rfl

theorem c_Valid {n : Bool} {a b : List UInt8} (ha : a.length ≤ 16777216) (hb : b.length ≤ 16777216) {H : List O} (K : V → List O → Prop) :
    Fx D0 fn_rational_Valid [rw_ n a b] H K = K (.bool (validB n a b)) H := by
  refine Fx_is ?_ K
  refine Fx_ofp (as := [rw_ n a b]) d_rational_Valid rfl ?_
  have p1 := fun K X => c_Normalize (K := K) (H := X) (l := a) (by omega)
  have p2 := fun K X => c_Normalize (K := K) (H := X) (l := b) (by omega)
  have p3 := fun K X => c_GCD (K := K) (H := X) ha hb
  unfold rw_ validB
  by_cases h1 : tidy a = a
  · by_cases h2 : tidy b = b
    · rw [h1] at p1
      rw [h2] at p2
      by_cases h3 : a = []
      · subst h3
        cases n
        · simp [go_sem, F_rational_Valid, p1, p2, seq_st, sne_st, h1, h2]
        · simp [go_sem, F_rational_Valid, p1, p2, seq_st, sne_st, h1, h2]
      · by_cases h4 : b = []
        · subst h4
          simp [go_sem, F_rational_Valid, p1, p2, seq_st, sne_st, h1, h2, h3]
        · by_cases h5 : b = [1]
          · subst h5
            simp [go_sem, F_rational_Valid, p1, p2, seq_st, sne_st, h1, h2, h3]
          · simp [go_sem, F_rational_Valid, p1, p2, p3, seq_st, sne_st, h1, h2, h3, h4, h5, nbl_eq_one]
    · rw [h1] at p1
      simp [go_sem, F_rational_Valid, p1, p2, seq_st, sne_st, h1, h2]
  · simp [go_sem, F_rational_Valid, p1, seq_st, sne_st, h1]
end Go.Proofs.Vm
/-! The package rational: clean, den, sign, negate, Make, Int. -/
namespace Go.Proofs.Vm
open Go Go.Proofs.Na

/-! The parts of a number. -/
def ng (q : Rat) : Bool := decide (q.num < 0)
def nm (q : Rat) : List UInt8 := nbl q.num.natAbs
def db (q : Rat) : List UInt8 := if q.den = 1 then [] else nbl q.den
/-- Numerator and denominator have at most k bytes. -/
def Rs (k : Nat) (q : Rat) : Prop := (nm q).length ≤ k ∧ (nbl q.den).length ≤ k
theorem rv_parts (q : Rat) : rv q = rw_ (ng q) (nm q) (db q) := rfl
theorem rw_at (n : Bool) (a b : List UInt8) : rw_ n a b = .agg [.lit (.bool n), st a, st b] := rfl
theorem db_nil (q : Rat) : db q = [] ↔ q.den = 1 := by
  unfold db
  by_cases h : q.den = 1
  · rw [if_pos h]; simp [h]
  · rw [if_neg h]; simp [h, nbl_eq_nil, q.den_nz]
theorem db_one (q : Rat) : (if db q = [] then [1] else db q) = nbl q.den := by
  by_cases h : q.den = 1
  · rw [if_pos ((db_nil q).2 h), h]; rfl
  · rw [if_neg (fun e => h ((db_nil q).1 e))]; unfold db; rw [if_neg h]
theorem db_inj {p q : Rat} : db p = db q ↔ p.den = q.den := by
  constructor
  · intro h
    have h1 := db_one p
    rw [h, db_one q] at h1
    have := congrArg nv h1
    rw [nv_nbl, nv_nbl] at this
    exact this.symm
  · intro h; unfold db; rw [h]
theorem nm_nil (q : Rat) : nm q = [] ↔ q.num = 0 := by unfold nm; rw [nbl_eq_nil]; omega
theorem nv_nm (q : Rat) : nv (nm q) = q.num.natAbs := nv_nbl _
theorem sgnI_num (q : Rat) : sgnI (ng q) q.num.natAbs = q.num := by
  unfold sgnI ng
  by_cases h : q.num < 0
  · simp [h]; omega
  · simp [h]; omega
theorem tidy_nbl (n : Nat) : tidy (nbl n) = nbl n := by rw [tidy_eq, nv_nbl]
theorem validB_rv (q : Rat) : validB (ng q) (nm q) (db q) = true := by
  unfold validB
  have h1 : tidy (nm q) = nm q := tidy_nbl _
  have h2 : tidy (db q) = db q := by
    unfold db; split
    · rfl
    · exact tidy_nbl _
  by_cases h3 : q.num = 0
  · have h4 : q = 0 := Rat.num_eq_zero.1 h3
    subst h4; rfl
  · have h5 : ¬ nm q = [] := fun e => h3 ((nm_nil q).1 e)
    rw [if_neg h5, h1, h2]
    by_cases h6 : q.den = 1
    · simp [(db_nil q).2 h6]
    · have h7 : ¬ db q = [] := fun e => h6 ((db_nil q).1 e)
      have h8 : db q = nbl q.den := by unfold db; rw [if_neg h6]
      have h9 : ¬ db q = [1] := by rw [h8, nbl_eq_one]; exact h6
      simp only [h9, decide_true, h8, nv_nbl, nv_nm, Bool.true_and, decide_false, Bool.not_false]
      have h10 := q.reduced
      unfold Nat.Coprime at h10
      rw [h8] at h9
      simp [h10, h9]
theorem dec_rv (q : Rat) : dec (ng q) (nm q) (db q) = q := by
  unfold dec
  rw [if_pos (validB_rv q), nv_nm, sgnI_num]
  by_cases h : q.den = 1
  · rw [if_pos ((db_nil q).2 h)]
    have := Rat.mkRat_self q
    rw [h] at this; exact this
  · rw [if_neg (fun e => h ((db_nil q).1 e))]
    have h8 : db q = nbl q.den := by unfold db; rw [if_neg h]
    rw [h8, nv_nbl]
    exact Rat.mkRat_self q

section
variable {n : Bool} {a b : List UInt8} {H : List O}
theorem c_clean (ha : a.length ≤ 16777216) (hb : b.length ≤ 16777216) (K : V → List O → Prop) :
    Fx D0 fn_rational_clean [rw_ n a b] H K = K (rv (dec n a b)) H := by
  refine Fx_is ?_ K
  refine Fx_ofp (as := [rw_ n a b]) d_rational_clean rfl ?_
  have p1 := fun K X => c_Valid (K := K) (H := X) (n := n) ha hb
  by_cases h : validB n a b = true
  · rw [← valid_rv h]
    rw [h] at p1
    unfold rw_ at p1 ⊢
    simp [go_sem, F_rational_clean, p1, getO, readV]
  · have h' : validB n a b = false := by simpa using h
    have h0 : dec n a b = 0 := by unfold dec; rw [if_neg h]
    rw [h0, rv_zero]
    rw [h'] at p1
    unfold rw_ at p1 ⊢
    simp [go_sem, F_rational_clean, p1, getO, readV, rz, st]
theorem c_clean' {q : Rat} (hq : Rs 16777216 q) (K : V → List O → Prop) : Fx D0 fn_rational_clean [rv q] H K = K (rv q) H := by
  have h1 : (db q).length ≤ 16777216 := by unfold db; split; · simp
                                           · exact hq.2
  rw [rv_parts, c_clean hq.1 h1, dec_rv, rv_parts]
theorem c_den (K : V → List O → Prop) : Fx D0 fn_rational_den [rw_ n a b] H K = K (st (if b = [] then [1] else b)) H := by
  refine Fx_is ?_ K
  refine Fx_ofp (as := [rw_ n a b]) d_rational_den rfl ?_
  unfold rw_
  by_cases h : b = []
  · subst h
    simp [go_sem, F_rational_den, seq_st, sne_st]
  · simp [go_sem, F_rational_den, seq_st, sne_st, h]
theorem c_den' {q : Rat} (K : V → List O → Prop) : Fx D0 fn_rational_den [rv q] H K = K (st (nbl q.den)) H := by rw [rv_parts, c_den, db_one]
theorem c_signOf {q : Rat} (K : V → List O → Prop) : Fx D0 fn_rational_signOf [rv q] H K = K (.int q.num.sign) H := by
  refine Fx_is ?_ K
  refine Fx_ofp (as := [rv q]) d_rational_signOf rfl ?_
  rw [rv_parts, rw_at]
  by_cases h : q.num = 0
  · have h1 := (nm_nil q).2 h
    simp [go_sem, F_rational_signOf, seq_st, sne_st, h, h1]
  · have h1 : ¬ nm q = [] := fun e => h ((nm_nil q).1 e)
    by_cases h2 : q.num < 0
    · have h3 : ng q = true := by simp [ng, h2]
      simp [go_sem, F_rational_signOf, seq_st, sne_st, h1, h3, Int.sign_eq_neg_one_of_neg h2]
    · have h3 : ng q = false := by simp [ng, h2]
      simp [go_sem, F_rational_signOf, seq_st, sne_st, h1, h3, Int.sign_eq_one_of_pos (show 0 < q.num by omega)]
theorem c_Sign (ha : a.length ≤ 16777216) (hb : b.length ≤ 16777216) (K : V → List O → Prop) :
    Fx D0 fn_rational_Sign [rw_ n a b] H K = K (.int (dec n a b).num.sign) H := by
  refine Fx_is ?_ K
  refine Fx_ofp (as := [rw_ n a b]) d_rational_Sign rfl ?_
  have p1 := fun K X => c_clean (K := K) (H := X) (n := n) ha hb
  unfold rw_ at p1 ⊢
  simp [go_sem, F_rational_Sign, p1, c_signOf]
theorem c_negate {q : Rat} (K : V → List O → Prop) : Fx D0 fn_rational_negate [rv q] H K = K (rv (-q)) H := by
  refine Fx_is ?_ K
  refine Fx_ofp (as := [rv q]) d_rational_negate rfl ?_
  have e1 : nm (-q) = nm q := by unfold nm; rw [Rat.neg_num, Int.natAbs_neg]
  have e2 : db (-q) = db q := by unfold db; rw [Rat.neg_den]
  rw [rv_parts, rv_parts, rw_at, rw_at, e1, e2]
  by_cases h : q.num = 0
  · have h1 := (nm_nil q).2 h
    have h3 : ng q = false := by simp [ng, h]
    have h4 : ng (-q) = false := by simp [ng, h, Rat.neg_num]
    simp [go_sem, F_rational_negate, seq_st, sne_st, h1, h3, h4, getO, readV]
  · have h1 : ¬ nm q = [] := fun e => h ((nm_nil q).1 e)
    by_cases h2 : q.num < 0
    · have h3 : ng q = true := by simp [ng, h2]
      have h4 : ng (-q) = false := by simp only [ng, Rat.neg_num, decide_eq_false_iff_not]; omega
      simp [go_sem, F_rational_negate, seq_st, sne_st, h1, h3, h4, getO, readV]
    · have h3 : ng q = false := by simp [ng, h2]
      have h4 : ng (-q) = true := by simp only [ng, Rat.neg_num, decide_eq_true_eq]; omega
      simp [go_sem, F_rational_negate, seq_st, sne_st, h1, h3, h4, getO, readV]
theorem c_Make {c : List UInt8} (ha : a.length ≤ 16777216) (hb : c.length ≤ 16777216) (K : V → List O → Prop) :
    Fx D0 fn_rational_Make [.lit (.bool n), st a, st c] H K = K (if nv c = 0 then .tup [rz, .bool false] else .tup [rv (mkRat (sgnI n (nv a)) (nv c)), .bool true]) H := by
  refine Fx_is ?_ K
  refine Fx_ofp d_rational_Make rfl ?_
  have p1 := fun K X => c_Normalize (K := K) (H := X) (l := c) (by omega)
  rw [tidy_eq] at p1
  by_cases h : nv c = 0
  · rw [h] at p1
    simp [go_sem, F_rational_Make, p1, h, seq_st, sne_st, nbl_zero, rz, getO, readV, st]
  · have h1 : ¬ nbl (nv c) = [] := fun e => h (nbl_eq_nil.1 e)
    have p2 := fun K X => c_reduced (K := K) (H := X) (neg := n) ha hb h
    rw [if_neg h]
    generalize mkRat (sgnI n (nv a)) (nv c) = q at *
    rw [rv_parts, rw_at] at p2 ⊢
    simp [go_sem, F_rational_Make, p1, p2, h1, seq_st, sne_st, getO, readV]
end
end Go.Proofs.Vm
/-! The package rational: magnitude, Int, add, and all over it. -/
namespace Go.Proofs.Vm
open Go Go.Proofs.Na

theorem Rs.mono {k j : Nat} {q : Rat} (h : Rs k q) (hj : k ≤ j) : Rs j q := ⟨Nat.le_trans h.1 hj, Nat.le_trans h.2 hj⟩
theorem Rs_lt {k : Nat} {q : Rat} : Rs k q ↔ q.num.natAbs < 256 ^ k ∧ q.den < 256 ^ k := by unfold Rs nm; rw [nbl_length_le, nbl_length_le]
theorem mul_size {a b j k : Nat} (ha : a < 256 ^ j) (hb : b < 256 ^ k) : (nbl (a * b)).length ≤ j + k := by
  rw [nbl_length_le, Nat.pow_add]; exact Nat.mul_lt_mul_of_lt_of_lt ha hb
theorem nbl_le {n k : Nat} : n < 256 ^ k ↔ (nbl n).length ≤ k := nbl_length_le.symm
/-- Two signed numbers added. -/
theorem sgnI_add (n : Bool) (x y : Nat) : sgnI n x + sgnI n y = sgnI n (x + y) := by cases n <;> simp [sgnI] <;> omega
theorem sgnI_add_ge {n m : Bool} (h : n ≠ m) {x y : Nat} (hxy : y ≤ x) : sgnI n x + sgnI m y = sgnI n (x - y) := by cases n <;> cases m <;> simp_all [sgnI] <;> omega
theorem sgnI_add_lt {n m : Bool} (h : n ≠ m) {x y : Nat} (hxy : ¬ y ≤ x) : sgnI n x + sgnI m y = sgnI m (y - x) := by cases n <;> cases m <;> simp_all [sgnI] <;> omega
theorem sgnI_mul (n : Bool) (x y : Nat) : sgnI n x * (y : Int) = sgnI n (x * y) := by cases n <;> simp [sgnI, Int.neg_mul]

theorem add_same {p q : Rat} (h : p.den = q.den) : p + q = mkRat (sgnI (ng p) p.num.natAbs + sgnI (ng q) q.num.natAbs) p.den := by
  rw [sgnI_num, sgnI_num, Rat.add_def', h, ← Int.add_mul, Rat.mkRat_mul_right q.den_nz]
theorem add_other {p q : Rat} : p + q = mkRat (sgnI (ng p) (p.num.natAbs * q.den) + sgnI (ng q) (q.num.natAbs * p.den)) (p.den * q.den) := by
  rw [← sgnI_mul, ← sgnI_mul, sgnI_num, sgnI_num, Rat.add_def']

section
variable {H : List O}
theorem c_magnitude {n : Int} (h1 : -9223372036854775808 ≤ n) (h2 : n ≤ 9223372036854775807) (K : V → List O → Prop) : Fx D0 fn_rational_magnitude [.int n] H K = K (st (nbl n.natAbs)) H := by
  refine Fx_is ?_ K
  refine Fx_ofp d_rational_magnitude rfl ?_
  by_cases h : n < 0
  · have e1 : IntKind.u64.wrap (0 - IntKind.u64.wrap n) = ((n.natAbs : Nat) : Int) := by rw [w64m, w64m]; omega
    have p1 := fun K X => c_FromUint (K := K) (H := X) (u := n.natAbs) (by omega)
    simp [-Int.zero_sub, go_sem, F_rational_magnitude, h, e1, p1]
  · have e1 : IntKind.u64.wrap n = ((n.natAbs : Nat) : Int) := by rw [w64m]; omega
    have p1 := fun K X => c_FromUint (K := K) (H := X) (u := n.natAbs) (by omega)
    simp [go_sem, F_rational_magnitude, h, e1, p1]
theorem c_Int {n : Int} (h1 : -9223372036854775808 ≤ n) (h2 : n ≤ 9223372036854775807) (K : V → List O → Prop) : Fx D0 fn_rational_Int [.int n] H K = K (rv (n : Rat)) H := by
  refine Fx_is ?_ K
  refine Fx_ofp d_rational_Int rfl ?_
  have p1 := fun K X => c_magnitude (K := K) (H := X) h1 h2
  have hs : (nbl n.natAbs).length ≤ 16777216 := by
    rw [nbl_length_le]
    calc n.natAbs < 256 ^ 8 := by omega
      _ ≤ 256 ^ 16777216 := pow_up (by omega)
  have p2 := fun K X => c_reduced (K := K) (H := X) (neg := decide (n < 0)) (b := [1]) hs (by simp) (by decide)
  have e : mkRat (sgnI (decide (n < 0)) (nv (nbl n.natAbs))) (nv [1]) = (n : Rat) := by
    rw [nv_nbl]
    have : sgnI (decide (n < 0)) n.natAbs = n := by unfold sgnI; by_cases h : n < 0 <;> simp [h] <;> omega
    rw [this]; exact Rat.mkRat_one n
  rw [e] at p2
  generalize (n : Rat) = q at *
  rw [rv_parts, rw_at] at p2 ⊢
  simp only [st] at p2 ⊢
  simp [go_sem, F_rational_Int, p1, p2, getO, readV]

theorem c_add {p q : Rat} (hp : Rs 4000000 p) (hq : Rs 4000000 q) (K : V → List O → Prop) : Fx D0 fn_rational_add [rv p, rv q] H K = K (rv (p + q)) H := by
  refine Fx_is ?_ K
  refine Fx_ofp (as := [rv p, rv q]) d_rational_add rfl ?_
  obtain ⟨a1, a2⟩ := Rs_lt.1 hp
  obtain ⟨b1, b2⟩ := Rs_lt.1 hq
  have hc : ∀ x, (nbl x).length ≤ 4000000 → (nbl x).length ≤ 16777216 := fun x h => by omega
  have pd : ∀ (r : Rat) K X, Fx D0 fn_rational_den [.agg [.lit (.bool (ng r)), st (nm r), st (db r)]] X K = K (st (nbl r.den)) X := fun r K X => c_den' (q := r) (H := X) K
  have key : ∀ (x y d : Nat), x < 256 ^ 8000000 → y < 256 ^ 8000000 → d < 256 ^ 8000000 → d ≠ 0 → p + q = mkRat (sgnI (ng p) x + sgnI (ng q) y) d →
      (∀ X, (∀ K, Fx D0 fn_natural_Add [st (nbl x), st (nbl y)] X K = K (st (nbl (x + y))) X) ∧ (∀ K, Fx D0 fn_natural_Subtract [st (nbl x), st (nbl y)] X K = K (if y ≤ x then .tup [st (nbl (x - y)), .bool true] else .tup [st [], .bool false]) X) ∧ (∀ K, Fx D0 fn_natural_Subtract [st (nbl y), st (nbl x)] X K = K (if x ≤ y then .tup [st (nbl (y - x)), .bool true] else .tup [st [], .bool false]) X)) ∧
      (if ng p = ng q then (∀ K X, Fx D0 fn_rational_reduced [.lit (.bool (ng p)), st (nbl (x + y)), st (nbl d)] X K = K (rv (p + q)) X)
        else if y ≤ x then (∀ K X, Fx D0 fn_rational_reduced [.lit (.bool (ng p)), st (nbl (x - y)), st (nbl d)] X K = K (rv (p + q)) X)
        else (∀ K X, Fx D0 fn_rational_reduced [.lit (.bool (ng q)), st (nbl (y - x)), st (nbl d)] X K = K (rv (p + q)) X)) := by
    intro x y d hx hy hd hd0 e
    have hxl := nbl_le.1 hx
    have hyl := nbl_le.1 hy
    have hdl := nbl_le.1 hd
    have hle : ∀ z, z ≤ x + y → (nbl z).length ≤ 16777216 := fun z hz => by
      exact nbl_twice (k := 8000000) (by omega) (by omega)
    refine ⟨fun X => ⟨fun K => ?_, fun K => ?_, fun K => ?_⟩, ?_⟩
    · rw [c_Add (by omega) (by omega), nv_nbl, nv_nbl]
    · rw [c_Subtract (by omega) (by omega), nv_nbl, nv_nbl]
    · rw [c_Subtract (by omega) (by omega), nv_nbl, nv_nbl]
    · rw [e]
      split
      · rename_i h
        intro K X
        rw [c_reduced (hle _ (Nat.le_refl _)) (by omega) (by rw [nv_nbl]; exact hd0), nv_nbl, nv_nbl, ← sgnI_add, h]
      · rename_i h
        split
        · rename_i h2
          intro K X
          rw [c_reduced (hle _ (by omega)) (by omega) (by rw [nv_nbl]; exact hd0), nv_nbl, nv_nbl, ← sgnI_add_ge h h2]
        · rename_i h2
          intro K X
          rw [c_reduced (hle _ (by omega)) (by omega) (by rw [nv_nbl]; exact hd0), nv_nbl, nv_nbl, ← sgnI_add_lt h h2]
  have hpow : ∀ {z : Nat}, z < 256 ^ 4000000 → z < 256 ^ 8000000 := fun h => pow_less (k := 4000000) (m := 8000000) h (by omega)
  have hmul : ∀ {z u : Nat}, z < 256 ^ 4000000 → u < 256 ^ 4000000 → z * u < 256 ^ 8000000 := fun h h' => pow_mul (k := 4000000) (m := 4000000) (n := 8000000) (by omega) h h'
  have hmulc : ∀ {z u : Nat}, z < 256 ^ 4000000 → u < 256 ^ 4000000 → ∀ X K, Fx D0 fn_natural_Multiply [st (nbl z), st (nbl u)] X K = K (st (nbl (z * u))) X := fun h h' X K => by
    have h1 := nbl_le.1 h
    have h2 := nbl_le.1 h'
    rw [c_Multiply (by omega) (by omega), nv_nbl, nv_nbl]
  by_cases hd : p.den = q.den
  · have k1 := key p.num.natAbs q.num.natAbs p.den (hpow a1) (hpow b1) (hpow a2) p.den_nz (add_same hd)
    have hdb : db p = db q := db_inj.2 hd
    obtain ⟨k2, k3⟩ := k1
    have k4 := fun K X => (k2 X).1 K
    have k5 := fun K X => (k2 X).2.1 K
    have k6 := fun K X => (k2 X).2.2 K
    clear k2 key
    have pd1 := pd p
    have pd2 := pd q
    rw [hdb] at pd1
    generalize p + q = r at *
    rw [rv_parts, rv_parts, rv_parts, rw_at, rw_at, rw_at, hdb]
    rw [rv_parts, rw_at] at k3
    have en : ∀ r, nbl (Rat.num r).natAbs = nm r := fun _ => rfl
    simp only [en] at k3 k4 k5 k6
    by_cases hn : ng p = ng q
    · rw [if_pos hn] at k3
      rw [hn] at k3 pd1 ⊢
      simp [go_sem, F_rational_add, seq_st, sne_st, pd1, pd2, k3, k4, getO, readV]
    · rw [if_neg hn] at k3
      by_cases hle : q.num.natAbs ≤ p.num.natAbs
      · rw [if_pos hle] at k3
        simp only [if_pos hle] at k5
        simp [go_sem, F_rational_add, seq_st, sne_st, pd1, pd2, k3, k5, getO, readV, hn]
      · rw [if_neg hle] at k3
        simp only [if_neg hle, if_pos (show p.num.natAbs ≤ q.num.natAbs by omega)] at k5 k6
        simp [go_sem, F_rational_add, seq_st, sne_st, pd1, pd2, k3, k5, k6, getO, readV, hn]
  · have k1 := key (p.num.natAbs * q.den) (q.num.natAbs * p.den) (p.den * q.den) (hmul a1 b2) (hmul b1 a2) (hmul a2 b2) (Nat.mul_ne_zero p.den_nz q.den_nz) add_other
    have hdb : ¬ db p = db q := fun e => hd (db_inj.1 e)
    obtain ⟨k2, k3⟩ := k1
    have k4 := fun K X => (k2 X).1 K
    have k5 := fun K X => (k2 X).2.1 K
    have k6 := fun K X => (k2 X).2.2 K
    clear k2 key
    have pd1 := pd p
    have pd2 := pd q
    have m1 := hmulc a1 b2
    have m2 := hmulc b1 a2
    have m3 := hmulc a2 b2
    generalize p + q = r at *
    rw [rv_parts, rv_parts, rv_parts, rw_at, rw_at, rw_at]
    rw [rv_parts, rw_at] at k3
    have en : ∀ r, nbl (Rat.num r).natAbs = nm r := fun _ => rfl
    simp only [en] at m1 m2
    by_cases hn : ng p = ng q
    · rw [if_pos hn] at k3
      rw [hn] at k3
      rw [hn] at pd1 ⊢
      simp [go_sem, F_rational_add, seq_st, sne_st, pd1, pd2, m1, m2, m3, k3, k4, getO, readV, hdb]
    · rw [if_neg hn] at k3
      by_cases hle : q.num.natAbs * p.den ≤ p.num.natAbs * q.den
      · rw [if_pos hle] at k3
        simp only [if_pos hle] at k5
        simp [go_sem, F_rational_add, seq_st, sne_st, pd1, pd2, m1, m2, m3, k3, k5, getO, readV, hn, hdb]
      · rw [if_neg hle] at k3
        simp only [if_neg hle, if_pos (show p.num.natAbs * q.den ≤ q.num.natAbs * p.den by omega)] at k5 k6
        simp [go_sem, F_rational_add, seq_st, sne_st, pd1, pd2, m1, m2, m3, k3, k5, k6, getO, readV, hn, hdb]
end
end Go.Proofs.Vm
/-! The package rational: Add to Max, Sum. -/
namespace Go.Proofs.Vm
open Go Go.Proofs.Na

/-- A number as it comes, not too long. -/
def Ok (n : Bool) (a b : List UInt8) : Prop := a.length ≤ 2000000 ∧ b.length ≤ 2000000
theorem st_inj {a b : List UInt8} (h : st a = st b) : a = b := by
  have h1 := congrArg (fun v => match v with | V.lit (.string s) => s.data.toList | _ => []) h
  simpa [st] using h1
theorem dec_Rs {n : Bool} {a b : List UInt8} (ha : a.length ≤ 2000000) (hb : b.length ≤ 2000000) : Rs 2000000 (dec n a b) := by
  by_cases h : validB n a b = true
  · have e := valid_rv h
    rw [rv_parts] at e
    unfold rw_ at e
    simp only [V.agg.injEq, List.cons.injEq, and_true] at e
    obtain ⟨_, e1, e2⟩ := e
    have f1 : nm (dec n a b) = a := (st_inj e1).symm
    have f2 : db (dec n a b) = b := (st_inj e2).symm
    refine ⟨by rw [f1]; exact ha, ?_⟩
    rw [← db_one, f2]
    split
    · simp
    · exact hb
  · have : dec n a b = 0 := by unfold dec; rw [if_neg h]
    rw [this]
    have h1 : (nbl 1).length = 1 := rfl
    exact ⟨by simp [nm, nbl_zero], by show (nbl 1).length ≤ _; omega⟩
section
variable {n m : Bool} {a b c d : List UInt8} {H : List O}
variable (ha : a.length ≤ 2000000) (hb : b.length ≤ 2000000) (hc : c.length ≤ 2000000) (hd : d.length ≤ 2000000) (K : V → List O → Prop)
include ha hb in
theorem c_Negate : Fx D0 fn_rational_Negate [rw_ n a b] H K = K (rv (-dec n a b)) H := by
  refine Fx_is ?_ K
  refine Fx_ofp (as := [rw_ n a b]) d_rational_Negate rfl ?_
  have p1 := fun K X => c_clean (K := K) (H := X) (n := n) (a := a) (b := b) (by omega) (by omega)
  have p2 := fun K X => c_negate (K := K) (H := X) (q := dec n a b)
  generalize -dec n a b = r at *
  generalize dec n a b = q at *
  unfold rw_ at p1 ⊢
  rw [rv_parts, rw_at] at p1 p2
  rw [rv_parts, rw_at] at p2
  rw [rv_parts, rw_at]
  simp [go_sem, F_rational_Negate, p1, p2, getO, readV]
include ha hb hc hd in
theorem c_AddR : Fx D0 fn_rational_Add [rw_ n a b, rw_ m c d] H K = K (rv (dec n a b + dec m c d)) H := by
  refine Fx_is ?_ K
  refine Fx_ofp (as := [rw_ n a b, rw_ m c d]) d_rational_Add rfl ?_
  have p1 := fun K X => c_clean (K := K) (H := X) (n := n) (a := a) (b := b) (by omega) (by omega)
  have p2 := fun K X => c_clean (K := K) (H := X) (n := m) (a := c) (b := d) (by omega) (by omega)
  have p3 := fun K X => c_add (K := K) (H := X) ((dec_Rs (n := n) ha hb).mono (by omega)) ((dec_Rs (n := m) hc hd).mono (by omega))
  generalize dec n a b + dec m c d = r at *
  generalize dec n a b = p at *
  generalize dec m c d = q at *
  unfold rw_ at p1 p2 ⊢
  rw [rv_parts, rw_at] at p1 p2 p3
  rw [rv_parts, rw_at] at p3
  rw [rv_parts, rw_at] at p3
  rw [rv_parts, rw_at]
  simp [go_sem, F_rational_Add, p1, p2, p3, getO, readV]
include ha hb hc hd in
theorem c_SubtractR : Fx D0 fn_rational_Subtract [rw_ n a b, rw_ m c d] H K = K (rv (dec n a b - dec m c d)) H := by
  refine Fx_is ?_ K
  refine Fx_ofp (as := [rw_ n a b, rw_ m c d]) d_rational_Subtract rfl ?_
  have hs : Rs 2000000 (-dec m c d) := by
    obtain ⟨h1, h2⟩ := dec_Rs (n := m) hc hd
    exact ⟨by unfold nm at h1 ⊢; rwa [Rat.neg_num, Int.natAbs_neg], by rwa [Rat.neg_den]⟩
  have p1 := fun K X => c_clean (K := K) (H := X) (n := n) (a := a) (b := b) (by omega) (by omega)
  have p2 := fun K X => c_clean (K := K) (H := X) (n := m) (a := c) (b := d) (by omega) (by omega)
  have p4 := fun K X => c_negate (K := K) (H := X) (q := dec m c d)
  have p3 := fun K X => c_add (K := K) (H := X) ((dec_Rs (n := n) ha hb).mono (by omega)) (hs.mono (by omega))
  rw [Rat.sub_eq_add_neg]
  generalize dec n a b + -dec m c d = r at *
  generalize -dec m c d = q' at *
  generalize dec n a b = p at *
  generalize dec m c d = q at *
  unfold rw_ at p1 p2 ⊢
  rw [rv_parts, rw_at] at p1 p2 p3 p4
  rw [rv_parts, rw_at] at p3 p4
  rw [rv_parts, rw_at] at p3
  rw [rv_parts, rw_at]
  simp [go_sem, F_rational_Subtract, p1, p2, p3, p4, getO, readV]
end
end Go.Proofs.Vm
/-! natural.Compare; the package rational: Multiply, Divide, Compare, Min, Max, Sum. -/
namespace Go.Proofs.Vm
open Go Go.Proofs.Na

theorem cmp_eq : ∀ {a b : List UInt8}, a.length = b.length → Lib.compareBytes a b = sg (nv a) (nv b)
  | [], [], _ => rfl
  | x :: a, y :: b, h => by
    have hl : a.length = b.length := by simpa using h
    have ih := cmp_eq hl
    have h1 := nv_lt a
    have h2 := nv_lt b
    rw [nv_cons, nv_cons, hl]
    rw [hl] at h1
    unfold Lib.compareBytes
    by_cases hxy : x < y
    · rw [if_pos hxy]
      have : x.toNat + 1 ≤ y.toNat := UInt8.lt_iff_toNat_lt.1 hxy
      have h3 := Nat.mul_le_mul_right (256 ^ b.length) this
      rw [Nat.add_mul, Nat.one_mul] at h3
      unfold sg; rw [if_pos (by omega)]
    · rw [if_neg hxy]
      by_cases hyx : y < x
      · rw [if_pos hyx]
        have : y.toNat + 1 ≤ x.toNat := UInt8.lt_iff_toNat_lt.1 hyx
        have h3 := Nat.mul_le_mul_right (256 ^ b.length) this
        rw [Nat.add_mul, Nat.one_mul] at h3
        unfold sg; rw [if_neg (by omega), if_pos (by omega)]
      · rw [if_neg hyx, ih]
        have : x.toNat = y.toNat := by
          have a1 : ¬ x.toNat < y.toNat := fun h => hxy (UInt8.lt_iff_toNat_lt.2 h)
          have a2 : ¬ y.toNat < x.toNat := fun h => hyx (UInt8.lt_iff_toNat_lt.2 h)
          omega
        rw [this]
        unfold sg
        congr 1
        · apply propext; constructor <;> intro <;> omega
        · congr 1; apply propext; constructor <;> intro <;> omega
theorem nbl_shorter {m n : Nat} (h : (nbl m).length < (nbl n).length) : m < n := by
  apply Nat.lt_of_not_le
  intro hle
  have := nbl_length_le.2 (Nat.lt_of_le_of_lt hle (nbl_length_le.1 (Nat.le_refl (nbl m).length)))
  omega

section
variable {H : List O}
theorem c_CompareN {a b : List UInt8} (ha : a.length ≤ 16777216) (hb : b.length ≤ 16777216) (K : V → List O → Prop) :
    Fx D0 fn_natural_Compare [st a, st b] H K = K (.int (sg (nv a) (nv b))) H := by
  refine Fx_is ?_ K
  refine Fx_ofp d_natural_Compare rfl ?_
  have p1 := fun K X => c_Normalize (K := K) (H := X) (l := a) (by omega)
  have p2 := fun K X => c_Normalize (K := K) (H := X) (l := b) (by omega)
  rw [tidy_eq] at p1 p2
  have sa := nbl_size (Nat.le_refl (nv a)) ha
  have sb := nbl_size (Nat.le_refl (nv b)) hb
  by_cases h : (nbl (nv a)).length = (nbl (nv b)).length
  · have p3 : ∀ K X, Fx D0 fn_strings_Compare [st (nbl (nv a)), st (nbl (nv b))] X K = K (.int (sg (nv a) (nv b))) X := fun K X => by
      refine Fx_is ((Fx_ext d_strings_Compare).2 ⟨(_, _), rfl, ?_, rfl⟩) K
      have := cmp_eq h
      rw [nv_nbl, nv_nbl] at this
      show V.lit (.int .i64 _) = _
      rw [← this]
    simp [go_sem, F_natural_Compare, p1, p2, p3, h, slen_st]
  · have h' : (((nbl (nv a)).length : Int) == ((nbl (nv b)).length : Int)) = false := beq_eq_false_iff_ne.2 (by omega)
    have e1 : IntKind.i64.wrap (((nbl (nv a)).length : Int) - ((nbl (nv b)).length : Int)) = ((nbl (nv a)).length : Int) - ((nbl (nv b)).length : Int) := wi (by omega) (by omega)
    have p3 := fun K X => c_sign (K := K) (H := X) (n := ((nbl (nv a)).length : Int) - ((nbl (nv b)).length : Int))
    have e2 : (if ((nbl (nv a)).length : Int) - ((nbl (nv b)).length : Int) < 0 then (-1 : Int) else if 0 < ((nbl (nv a)).length : Int) - ((nbl (nv b)).length : Int) then 1 else 0) = sg (nv a) (nv b) := by
      unfold sg
      by_cases h1 : (nbl (nv a)).length < (nbl (nv b)).length
      · rw [if_pos (by omega), if_pos (nbl_shorter h1)]
      · have h2 : (nbl (nv b)).length < (nbl (nv a)).length := by omega
        have := nbl_shorter h2
        rw [if_neg (by omega), if_pos (by omega), if_neg (by omega), if_pos this]
    rw [e2] at p3
    have hz : ¬ ((nbl (nv a)).length : Int) = ((nbl (nv b)).length : Int) := by omega
    simp [go_sem, F_natural_Compare, p1, p2, p3, h', e1, slen_st, hz]
end

/-! Compare. -/
def cmpR (p q : Rat) : Int := if p < q then -1 else if q < p then 1 else 0
theorem cmp_signs (X Y : Int) : (if X.sign = Y.sign then (if X < 0 then -sg X.natAbs Y.natAbs else sg X.natAbs Y.natAbs) else if X.sign < Y.sign then -1 else 1) = (if X < Y then -1 else if Y < X then 1 else 0) := by
  have key : ∀ Z : Int, (Z < 0 ∧ Z.sign = -1) ∨ (Z = 0 ∧ Z.sign = 0) ∨ (0 < Z ∧ Z.sign = 1) := fun Z => by
    rcases Int.lt_trichotomy Z 0 with h | h | h
    · exact .inl ⟨h, Int.sign_eq_neg_one_of_neg h⟩
    · exact .inr (.inl ⟨h, by rw [h]; rfl⟩)
    · exact .inr (.inr ⟨h, Int.sign_eq_one_of_pos h⟩)
  have kx := key X
  have ky := key Y
  unfold sg
  generalize X.sign = s at *
  generalize Y.sign = t at *
  (repeat' split) <;> omega
theorem cmpR_eq (p q : Rat) : cmpR p q = (if p.num.sign = q.num.sign then (if p.num < 0 then -sg (p.num.natAbs * q.den) (q.num.natAbs * p.den) else sg (p.num.natAbs * q.den) (q.num.natAbs * p.den)) else if p.num.sign < q.num.sign then -1 else 1) := by
  have hp : (0 : Int) < p.den := Int.natCast_pos.2 p.den_pos
  have hq : (0 : Int) < q.den := Int.natCast_pos.2 q.den_pos
  have h := cmp_signs (p.num * q.den) (q.num * p.den)
  have s1 : (p.num * q.den).sign = p.num.sign := by rw [Int.sign_mul, Int.sign_eq_one_of_pos hq, Int.mul_one]
  have s2 : (q.num * p.den).sign = q.num.sign := by rw [Int.sign_mul, Int.sign_eq_one_of_pos hp, Int.mul_one]
  have n1 : (p.num * q.den).natAbs = p.num.natAbs * q.den := by rw [Int.natAbs_mul, Int.natAbs_natCast]
  have n2 : (q.num * p.den).natAbs = q.num.natAbs * p.den := by rw [Int.natAbs_mul, Int.natAbs_natCast]
  have l1 : (p.num * q.den < 0) = (p.num < 0) := by
    apply propext
    constructor
    · intro h; apply Int.lt_of_not_ge; intro h0
      have := Int.mul_nonneg h0 (Int.le_of_lt hq); omega
    · intro h; exact Int.mul_neg_of_neg_of_pos h hq
  rw [s1, s2, n1, n2] at h
  simp only [l1] at h
  rw [h]
  unfold cmpR
  simp only [Rat.lt_iff]

section
variable {n m : Bool} {a b c d : List UInt8} {H : List O}
variable (ha : a.length ≤ 2000000) (hb : b.length ≤ 2000000) (hc : c.length ≤ 2000000) (hd : d.length ≤ 2000000) (K : V → List O → Prop)
theorem mulc {z u : Nat} (h : z < 256 ^ 4000000) (h' : u < 256 ^ 4000000) (X : List O) (K : V → List O → Prop) : Fx D0 fn_natural_Multiply [st (nbl z), st (nbl u)] X K = K (st (nbl (z * u))) X := by
  have h1 := nbl_le.1 h
  have h2 := nbl_le.1 h'
  rw [c_Multiply (by omega) (by omega), nv_nbl, nv_nbl]
theorem den_at (r : Rat) (K : V → List O → Prop) (X : List O) : Fx D0 fn_rational_den [.agg [.lit (.bool (ng r)), st (nm r), st (db r)]] X K = K (st (nbl r.den)) X := c_den' (q := r) (H := X) K
theorem signOf_at (r : Rat) (K : V → List O → Prop) (X : List O) : Fx D0 fn_rational_signOf [.agg [.lit (.bool (ng r)), st (nm r), st (db r)]] X K = K (.int r.num.sign) X := c_signOf (q := r) (H := X) K
theorem big4 {z : Nat} (h : z < 256 ^ 2000000) : z < 256 ^ 4000000 := pow_less (k := 2000000) (m := 4000000) h (by omega)
theorem mul_small {z u : Nat} (h : z < 256 ^ 2000000) (h' : u < 256 ^ 2000000) : (nbl (z * u)).length ≤ 4000000 := by
  exact nbl_mul (k := 2000000) (m := 2000000) (by omega) h h'

include ha hb hc hd in
theorem c_CompareR : Fx D0 fn_rational_Compare [rw_ n a b, rw_ m c d] H K = K (.int (cmpR (dec n a b) (dec m c d))) H := by
  refine Fx_is ?_ K
  refine Fx_ofp (as := [rw_ n a b, rw_ m c d]) d_rational_Compare rfl ?_
  have p1 := fun K X => c_clean (K := K) (H := X) (n := n) (a := a) (b := b) (by omega) (by omega)
  have p2 := fun K X => c_clean (K := K) (H := X) (n := m) (a := c) (b := d) (by omega) (by omega)
  have sp := Rs_lt.1 (dec_Rs (n := n) ha hb)
  have sq := Rs_lt.1 (dec_Rs (n := m) hc hd)
  generalize dec n a b = p at *
  generalize dec m c d = q at *
  have hm1 := mulc (big4 sp.1) (big4 sq.2)
  have hm2 := mulc (big4 sq.1) (big4 sp.2)
  have z1 := mul_small sp.1 sq.2
  have z2 := mul_small sq.1 sp.2
  have hc3 := fun K X => c_CompareN (K := K) (H := X) (a := nbl (p.num.natAbs * q.den)) (b := nbl (q.num.natAbs * p.den)) (by omega) (by omega)
  rw [nv_nbl, nv_nbl] at hc3
  have en : ∀ r, nbl (Rat.num r).natAbs = nm r := fun _ => rfl
  simp only [en] at hm1 hm2
  rw [cmpR_eq]
  unfold rw_ at p1 p2 ⊢
  rw [rv_parts, rw_at] at p1 p2
  by_cases h : p.num.sign = q.num.sign
  · rw [if_pos h]
    by_cases h2 : p.num < 0
    · have h3 : ng p = true := by simp [ng, h2]
      have dp := den_at p
      have gp := signOf_at p
      rw [h3] at p1 dp gp
      have e1 : IntKind.i64.wrap (0 - sg (p.num.natAbs * q.den) (q.num.natAbs * p.den)) = - sg (p.num.natAbs * q.den) (q.num.natAbs * p.den) := by
        rw [wi] <;> (unfold sg; split <;> (try split) <;> omega)
      rw [if_pos h2]
      simp [-Int.zero_sub, go_sem, F_rational_Compare, p1, p2, dp, den_at q, gp, signOf_at q, hm1, hm2, hc3, h, e1]
    · have h3 : ng p = false := by simp [ng, h2]
      have dp := den_at p
      have gp := signOf_at p
      rw [h3] at p1 dp gp
      rw [if_neg h2]
      simp [go_sem, F_rational_Compare, p1, p2, dp, den_at q, gp, signOf_at q, hm1, hm2, hc3, h]
  · rw [if_neg h]
    have h' : (p.num.sign == q.num.sign) = false := beq_eq_false_iff_ne.2 h
    by_cases h2 : p.num.sign < q.num.sign
    · rw [if_pos h2]
      simp [go_sem, F_rational_Compare, p1, p2, signOf_at, h, h', h2]
    · rw [if_neg h2]
      simp [go_sem, F_rational_Compare, p1, p2, signOf_at, h, h', h2]
end
end Go.Proofs.Vm
/-! The package rational: Multiply, Divide, Min, Max, Sum. -/
namespace Go.Proofs.Vm
open Go Go.Proofs.Na

theorem ng_mul (p q : Rat) (x : Nat) : sgnI (ng p != ng q) (p.num.natAbs * q.num.natAbs * x) = p.num * q.num * x := by
  have h1 := sgnI_num p
  have h2 := sgnI_num q
  rw [← h1, ← h2]
  rw [sgnI_abs, sgnI_abs]
  cases ng p <;> cases ng q <;> simp [sgnI, Int.neg_mul, Int.mul_neg]
theorem mul_eq (p q : Rat) : mkRat (sgnI (ng p != ng q) (p.num.natAbs * q.num.natAbs)) (p.den * q.den) = p * q := by
  have := ng_mul p q 1
  rw [Nat.mul_one, Int.natCast_one, Int.mul_one] at this
  rw [this, Rat.mul_def']
theorem sign_ng (q : Rat) (h : q.num ≠ 0) : q.num.sign = sgnI (ng q) 1 := by
  unfold ng
  by_cases h0 : q.num < 0
  · simp [h0, sgnI, Int.sign_eq_neg_one_of_neg]
  · simp [h0, sgnI, Int.sign_eq_one_of_pos (show 0 < q.num by omega)]
theorem div_eq (p q : Rat) (h : q.num ≠ 0) : mkRat (sgnI (ng p != ng q) (p.num.natAbs * q.den)) (p.den * q.num.natAbs) = p / q := by
  rw [Rat.div_def, Rat.mul_def', Rat.num_inv, Rat.den_inv, if_neg h, sign_ng q h]
  congr 1
  have h1 := sgnI_num p
  rw [← h1, sgnI_abs]
  cases ng p <;> cases ng q <;> simp [sgnI, Int.neg_mul, Int.mul_neg]

section
variable {n m : Bool} {a b c d : List UInt8} {H : List O}
variable (ha : a.length ≤ 2000000) (hb : b.length ≤ 2000000) (hc : c.length ≤ 2000000) (hd : d.length ≤ 2000000) (K : V → List O → Prop)
include ha hb hc hd in
theorem c_MultiplyR : Fx D0 fn_rational_Multiply [rw_ n a b, rw_ m c d] H K = K (rv (dec n a b * dec m c d)) H := by
  refine Fx_is ?_ K
  refine Fx_ofp (as := [rw_ n a b, rw_ m c d]) d_rational_Multiply rfl ?_
  have p1 := fun K X => c_clean (K := K) (H := X) (n := n) (a := a) (b := b) (by omega) (by omega)
  have p2 := fun K X => c_clean (K := K) (H := X) (n := m) (a := c) (b := d) (by omega) (by omega)
  have sp := Rs_lt.1 (dec_Rs (n := n) ha hb)
  have sq := Rs_lt.1 (dec_Rs (n := m) hc hd)
  generalize dec n a b = p at *
  generalize dec m c d = q at *
  have hm1 := mulc (big4 sp.1) (big4 sq.1)
  have hm2 := mulc (big4 sp.2) (big4 sq.2)
  have z1 := mul_small sp.1 sq.1
  have z2 := mul_small sp.2 sq.2
  have hr := fun K X => c_reduced (K := K) (H := X) (neg := (ng p != ng q)) (a := nbl (p.num.natAbs * q.num.natAbs)) (b := nbl (p.den * q.den)) (by omega) (by omega) (by rw [nv_nbl]; exact Nat.mul_ne_zero p.den_nz q.den_nz)
  rw [nv_nbl, nv_nbl, mul_eq] at hr
  have en : ∀ r, nbl (Rat.num r).natAbs = nm r := fun _ => rfl
  simp only [en] at hm1
  generalize p * q = r at *
  unfold rw_ at p1 p2 ⊢
  rw [rv_parts, rw_at] at p1 p2 hr
  rw [rv_parts, rw_at]
  have hb : ∀ x y : Bool, (!(x == y)) = (x != y) := fun _ _ => rfl
  simp [go_sem, F_rational_Multiply, p1, p2, den_at p, den_at q, hm1, hm2, hb, hr, getO, readV]
include ha hb hc hd in
theorem c_DivideR : Fx D0 fn_rational_Divide [rw_ n a b, rw_ m c d] H K = K (if dec m c d = 0 then .tup [rz, .bool false] else .tup [rv (dec n a b / dec m c d), .bool true]) H := by
  refine Fx_is ?_ K
  refine Fx_ofp (as := [rw_ n a b, rw_ m c d]) d_rational_Divide rfl ?_
  have p1 := fun K X => c_clean (K := K) (H := X) (n := n) (a := a) (b := b) (by omega) (by omega)
  have p2 := fun K X => c_clean (K := K) (H := X) (n := m) (a := c) (b := d) (by omega) (by omega)
  have sp := Rs_lt.1 (dec_Rs (n := n) ha hb)
  have sq := Rs_lt.1 (dec_Rs (n := m) hc hd)
  generalize dec n a b = p at *
  generalize dec m c d = q at *
  have hm1 := mulc (big4 sp.1) (big4 sq.2)
  have hm2 := mulc (big4 sp.2) (big4 sq.1)
  have z1 := mul_small sp.1 sq.2
  have z2 := mul_small sp.2 sq.1
  have hr := fun K X => c_Make (K := K) (H := X) (n := (ng p != ng q)) (a := nbl (p.num.natAbs * q.den)) (c := nbl (p.den * q.num.natAbs)) (by omega) (by omega)
  rw [nv_nbl, nv_nbl] at hr
  have en : ∀ r, nbl (Rat.num r).natAbs = nm r := fun _ => rfl
  simp only [en] at hm1 hm2
  have hb : ∀ x y : Bool, (!(x == y)) = (x != y) := fun _ _ => rfl
  by_cases hq : q = 0
  · have h0 : p.den * q.num.natAbs = 0 := by rw [hq]; simp
    rw [if_pos h0] at hr
    rw [if_pos hq]
    unfold rw_ at p1 p2 ⊢
    rw [rv_parts, rw_at] at p1 p2
    simp only [rz] at hr ⊢
    simp [go_sem, F_rational_Divide, p1, p2, den_at p, den_at q, hm1, hm2, hb, hr, getO, readV]
  · have h0 : ¬ p.den * q.num.natAbs = 0 := by
      have h1 := p.den_nz
      have h2 : q.num ≠ 0 := fun e => hq (Rat.num_eq_zero.1 e)
      exact Nat.mul_ne_zero h1 (by omega)
    rw [if_neg h0, div_eq p q (fun e => hq (Rat.num_eq_zero.1 e))] at hr
    rw [if_neg hq]
    generalize p / q = r at *
    unfold rw_ at p1 p2 ⊢
    rw [rv_parts, rw_at] at p1 p2
    simp only [rv_parts, rw_at] at hr ⊢
    simp [go_sem, F_rational_Divide, p1, p2, den_at p, den_at q, hm1, hm2, hb, hr, getO, readV]
include ha hb hc hd in
theorem c_MinR : Fx D0 fn_rational_Min [rw_ n a b, rw_ m c d] H K = K (rv (if dec n a b ≤ dec m c d then dec n a b else dec m c d)) H := by
  refine Fx_is ?_ K
  refine Fx_ofp (as := [rw_ n a b, rw_ m c d]) d_rational_Min rfl ?_
  have p1 := fun K X => c_clean (K := K) (H := X) (n := n) (a := a) (b := b) (by omega) (by omega)
  have p2 := fun K X => c_clean (K := K) (H := X) (n := m) (a := c) (b := d) (by omega) (by omega)
  have p3 := fun K X => c_CompareR (K := K) (H := X) (n := n) (m := m) ha hb hc hd
  generalize dec n a b = p at *
  generalize dec m c d = q at *
  unfold rw_ at p1 p2 p3 ⊢
  rw [rv_parts, rw_at] at p1 p2
  by_cases h : p ≤ q
  · have h1 : cmpR p q ≤ 0 := by
      unfold cmpR; split
      · omega
      · rw [if_neg (Rat.not_lt.2 h)]; omega
    rw [if_pos h, rv_parts, rw_at]
    simp [go_sem, F_rational_Min, p1, p2, p3, h1, getO, readV]
  · have h1 : ¬ cmpR p q ≤ 0 := by
      have h2 := Rat.not_le.1 h
      unfold cmpR; rw [if_neg (fun h3 => h (Rat.le_of_lt h3)), if_pos h2]; omega
    rw [if_neg h, rv_parts, rw_at]
    simp [go_sem, F_rational_Min, p1, p2, p3, h1, getO, readV]
include ha hb hc hd in
theorem c_MaxR : Fx D0 fn_rational_Max [rw_ n a b, rw_ m c d] H K = K (rv (if dec m c d ≤ dec n a b then dec n a b else dec m c d)) H := by
  refine Fx_is ?_ K
  refine Fx_ofp (as := [rw_ n a b, rw_ m c d]) d_rational_Max rfl ?_
  have p1 := fun K X => c_clean (K := K) (H := X) (n := n) (a := a) (b := b) (by omega) (by omega)
  have p2 := fun K X => c_clean (K := K) (H := X) (n := m) (a := c) (b := d) (by omega) (by omega)
  have p3 := fun K X => c_CompareR (K := K) (H := X) (n := n) (m := m) ha hb hc hd
  generalize dec n a b = p at *
  generalize dec m c d = q at *
  unfold rw_ at p1 p2 p3 ⊢
  rw [rv_parts, rw_at] at p1 p2
  by_cases h : q ≤ p
  · have h1 : 0 ≤ cmpR p q := by
      unfold cmpR; rw [if_neg (Rat.not_lt.2 h)]; split <;> omega
    rw [if_pos h, rv_parts, rw_at]
    simp [go_sem, F_rational_Max, p1, p2, p3, h1, getO, readV]
  · have h1 : ¬ 0 ≤ cmpR p q := by
      have h2 := Rat.not_le.1 h
      unfold cmpR; rw [if_pos h2]; omega
    rw [if_neg h, rv_parts, rw_at]
    simp [go_sem, F_rational_Max, p1, p2, p3, h1, getO, readV]
end
end Go.Proofs.Vm
/-! The package insolvencyref1: Normalize, strip, limbs, order. -/
namespace Go.Proofs.Vm
open Go Go.Proofs.Na

def nzI (l : List UInt8) (n : Nat) (s : Nat → V) (X : List O) : Prop := X = [] ∧ ∃ i : Nat, s 0 = st l ∧ s 3 = .int (i : Int) ∧ i ≤ l.length ∧ n = l.length - i ∧ tidy (l.drop i) = tidy l
def spI (H : List O) (v : V) (l : List Nat) (n : Nat) (s : Nat → V) (X : List O) : Prop := X = H ∧ s 0 = v ∧ s 3 = .int (n : Int) ∧ n ≤ l.length ∧ ∀ i (h : i < l.length), n ≤ i → l[i] = 0
theorem r_Normalize {l : List UInt8} (hl : l.length < 9223372036854775807) {H : List O} (K : V → List O → Prop) : Fx D0 fn_ref1_Normalize [st l] H K = K (st (tidy l)) H := by
  refine Fx_is ?_ K
  refine Fx_ofp d_ref1_Normalize rfl ?_
  simp [go_sem, F_ref1_Normalize]
  refine Bx_rounds (nzI l) ?_ l.length _ _ ⟨rfl, 0, rfl, rfl, by omega, rfl, rfl⟩
  rintro n s X ⟨rfl, i, h0, h3, hi, rfl, ht⟩
  refine wpB_ok ?_
  by_cases hlt : i < l.length
  · have i1 := fun K => idx_st (K := K) (H := []) (l := l) (k := .i64) (i := i) hlt
    have w1 : IntKind.i64.wrap ((i : Int) + 1) = ((i + 1 : Nat) : Int) := by rw [wi (by omega) (by omega)]; omega
    have hd : l.drop i = l[i] :: l.drop (i + 1) := List.drop_eq_getElem_cons hlt
    by_cases hb : l[i] = 0
    · simp [go_sem, h0, h3, slen_st, hlt, i1, hb, w1, -Int.natCast_add]
      refine ⟨l.length - (i + 1), by omega, rfl, i + 1, by simp [go_sem, h0], by simp [go_sem], by omega, rfl, ?_⟩
      rw [← ht, hd, hb]; simp [tidy]
    · have hb2 : ¬ l[i].toNat = 0 := fun e => hb (UInt8.toNat_inj.1 (by simpa using e))
      have i2 := sls_from (H := []) (l := l) (k := .i64) (i := i) (by omega)
      simp [go_sem, h0, h3, slen_st, hlt, i1, hb2, i2]
      rw [← ht, hd]; simp [tidy, hb]
  · have e : i = l.length := by omega
    subst e
    have i2 := sls_from (H := []) (l := l) (k := .i64) (i := l.length) (by omega)
    simp [go_sem, h0, h3, slen_st, i2]
    rw [← ht]; simp [tidy]

theorem r_strip {H : List O} {v : V} {l : List Nat} (hv : SL H v l) (hlen : l.length < 9223372036854775808) (K : V → List O → Prop) :
    Fx D0 fn_ref1_strip [v] H K = K (takeV 1 v (trimN l)) H := by
  refine Fx_is ?_ K
  refine Fx_of d_ref1_strip ?_
  have hv' : sliceV H 1 v = some (lm l, l.length) := hv
  have hle := len_s hv'
  simp [go_sem, F_ref1_strip, hle]
  refine Bx_rounds (spI H v l) ?_ l.length _ _ ⟨rfl, rfl, rfl, Nat.le_refl _, fun i h1 h2 => by omega⟩
  rintro n s X ⟨rfl, h0, h3, hn, hz⟩
  refine wpB_ok ?_
  by_cases hn0 : n = 0
  · subst hn0
    have e := trimN_is (l := l) (n := 0) (by omega) hz (.inl rfl)
    have i1 := fun K => take_s (K := K) (q := .i64) (n := 0) hv' (by omega)
    simp at i1
    simp [go_sem, h0, h3, i1, e]
  · have w1 : IntKind.i64.wrap ((n : Int) - 1) = ((n - 1 : Nat) : Int) := by rw [wi (by omega) (by omega)]; omega
    have hlt : n - 1 < l.length := by omega
    have hp : 0 < n := by omega
    have i1 := fun K => ia_s (K := K) (q := .i64) (n := ((n - 1 : Nat) : Int)) hv' (by omega) (by omega)
    have i2 := fun K => ld_s (K := K) (i := n - 1) (k := 0) hv' (by simp [lm_len]; omega)
    simp [lm_get] at i1 i2
    have i3 := fun K => take_s (K := K) (q := .i64) (n := (n : Int)) hv' (by omega)
    simp at i3
    by_cases hx : l[n - 1] = 0
    · simp [go_sem, h0, h3, hp, w1, i1, i2, hx]
      refine ⟨n - 1, by omega, rfl, by simp [go_sem, h0], by simp [go_sem], by omega, fun i h1 h2 => ?_⟩
      by_cases e : i = n - 1
      · subst e; exact hx
      · exact hz i h1 (by omega)
    · have e := trimN_is (l := l) (n := n) hn hz (.inr ⟨hlt, hx⟩)
      simp [go_sem, h0, h3, hp, w1, i1, i2, hx, i3, e]
end Go.Proofs.Vm
/-! The package insolvencyref1: limbs, order. -/
namespace Go.Proofs.Vm
open Go Go.Proofs.Na

theorem lb_full {o : List Nat} {n : Nat} (ho : Limbs o) (hl : o.length = ((nbl n).length + 3) / 4) (hv : lv o = n) : o = lb n := by
  have h1 : (lb n).length ≤ o.length := lb_len.2 (by rw [← hv]; exact lv_lt ho)
  have h2 : o.length ≤ (lb n).length := by
    have h3 : n < BB ^ (lb n).length := lb_len.1 (Nat.le_refl _)
    rw [show BB = 256 ^ 4 from rfl, ← Nat.pow_mul] at h3
    have h4 := nbl_length_le.2 h3
    omega
  have h5 : lb n = ln o.length n := lv_uniq (lb_limbs n) (by omega) (lv_lb n)
  rw [h5]
  exact lv_uniq ho rfl hv

def liI (l : List UInt8) (n : Nat) (s : Nat → V) (X : List O) : Prop :=
  ∃ i o, n = l.length - i ∧ i ≤ l.length ∧ X = [.cells (lm o) ty_uint32 1] ∧ s 0 = st l ∧ s 3 = .osl 0 0 ((l.length + 3) / 4) ∧ s 4 = .int (i : Int) ∧ o.length = (l.length + 3) / 4 ∧ Limbs o ∧ lv o = nv (l.drop (l.length - i))
theorem r_limbs {l : List UInt8} (hl : l.length ≤ 4611686018427387904 / 65536) {H : List O} (K : V → List O → Prop) : Fx D0 fn_ref1_limbs [st l] H K = K (LV (lb (nv l))) H := by
  refine Fx_is ?_ K
  refine Fx_ofp d_ref1_limbs rfl ?_
  have p1 := fun K X => r_Normalize (K := K) (H := X) (l := l) (by omega)
  have hll : (tidy l).length ≤ 4611686018427387904 / 65536 := by
    rw [tidy_eq]; exact nbl_size (Nat.le_refl _) hl
  rw [← tidy_nv l]
  have hlt_ : nbl (nv (tidy l)) = tidy l := by rw [tidy_nv, ← tidy_eq]
  generalize tidy l = l at *
  have e2 : IntKind.i64.wrap ((l.length : Int) + 3) = ((l.length + 3 : Nat) : Int) := by rw [wi (by omega) (by omega)]; omega
  have e3 : IntKind.i64.wrap (((l.length + 3 : Nat) : Int) / 4) = (((l.length + 3) / 4 : Nat) : Int) := by rw [wi (by omega) (by omega)]; omega
  have e4 : (((l.length + 3) / 4 : Nat) : Int) * 4 ≤ 140737488355328 := by omega
  have e5 : (0 : Int) ≤ (((l.length + 3) / 4 : Nat) : Int) := by omega
  simp [go_sem, F_ref1_limbs, p1, slen_st, -Int.natCast_add, -Int.natCast_ediv, e2, e3, e4, e5, lm_rep]
  refine Bx_rounds (liI l) ?_ l.length _ _
    ⟨0, List.replicate ((l.length + 3) / 4) 0, rfl, Nat.zero_le _, by simp [lm], rfl, rfl, rfl, by simp, limbs_zeros _, by simp [lv_zeros, nv_nil]⟩
  rintro n s X ⟨i, o, rfl, hi, rfl, h0, h3, h4, hol, ho, hv⟩
  refine wpB_ok ?_
  by_cases hlt : i < l.length
  · obtain ⟨h, g1, g2, g3⟩ := parse_step hlt hol ho hv
    have w1 : IntKind.i64.wrap ((i : Int) / 4) = ((i / 4 : Nat) : Int) := by rw [wi (by omega) (by omega)]; omega
    have w2 : IntKind.i64.wrap ((l.length : Int) - 1) = ((l.length - 1 : Nat) : Int) := by rw [wi (by omega) (by omega)]; omega
    have w3 : IntKind.i64.wrap (((l.length - 1 : Nat) : Int) - (i : Int)) = ((l.length - 1 - i : Nat) : Int) := by rw [wi (by omega) (by omega)]; omega
    have w4 : IntKind.i64.wrap ((i : Int) + 1) = ((i + 1 : Nat) : Int) := by rw [wi (by omega) (by omega)]; omega
    have i1 := fun K H => idx_st (K := K) (H := H) (l := l) (k := .i64) (i := l.length - 1 - i) (by omega)
    have i2 := lm_at h
    generalize hb : (l[l.length - 1 - i]'(by omega)).toNat = b at *
    have hb2 : b < 256 := by rw [← hb]; exact UInt8.toNat_lt _
    have w5 : IntKind.u32.wrap (b : Int) = (b : Int) := by rw [w32 (by omega) (by omega)]
    have w6 : IntKind.i64.wrap (8 * (i : Int).tmod 4) = ((8 * (i % 4) : Nat) : Int) := by
      rw [show (4 : Int) = ((4 : Nat) : Int) from rfl, tmodN, wi (by omega) (by omega)]; omega
    have w9 : IntKind.u64.wrap ((8 * (i % 4) : Nat) : Int) = ((8 * (i % 4) : Nat) : Int) := by rw [w64 (by omega) (by omega)]
    have hBB : BB = 4294967296 := rfl
    have w7 : IntKind.u32.wrap ((b : Int) * 2 ^ min (8 * (i % 4)) 32) = ((b * 256 ^ (i % 4) : Nat) : Int) := by
      rw [Nat.min_eq_left (by omega)]
      have e : (b : Int) * 2 ^ (8 * (i % 4)) = ((b * 256 ^ (i % 4) : Nat) : Int) := by rw [← p256]; push_cast; rfl
      rw [e, w32 (by omega) (by omega)]
    have w8 : bits .or .u32 (o[i / 4] : Int) ((b * 256 ^ (i % 4) : Nat) : Int) = ((o[i / 4] + b * 256 ^ (i % 4) : Nat) : Int) := by
      have := ho _ (List.getElem_mem h)
      rw [u32_or_nat _ _ (by omega) (by omega), ← p256, or_add (by rw [p256]; exact g1)]
    simp [go_sem, h0, h3, h4, slen_st, hlt, -Int.natCast_add, -Int.natCast_ediv, -Int.natCast_mul, -Int.natCast_emod, w1, w2, w3, w4, w5, w6, w7, w8, w9, i1, i2]
    refine ⟨by omega, by simp [lm_len]; omega, l.length - (i + 1), by omega, i + 1, o.set (i / 4) (o[i / 4] + b * 256 ^ (i % 4)), rfl, by omega, ?_, by simp [go_sem, h0], by simp [go_sem, h3], by simp [go_sem], by simp [hol], limbs_set ho g2, g3⟩
    rw [← lm_set, ← set_eq _ _ (by simpa [lm_len] using h)]
    simp
  · have hi' : i = l.length := by omega
    subst hi'
    have hvv : lv o = nv l := by simpa using hv
    have hoe := lb_full ho (n := nv l) (by rw [hlt_]; exact hol) hvv
    have hout := out_lm (H := [.cells (lm o) ty_uint32 1]) (h := 0) (o := o) (t := ty_uint32) (k := (l.length + 3) / 4) rfl (by omega)
    rw [List.take_of_length_le (by omega)] at hout
    simp [go_sem, h0, h3, h4, slen_st, hout]
    rw [hoe]

def orI (m n : Nat) (v w : V) (k : Nat) (s : Nat → V) (X : List O) : Prop :=
  X = [] ∧ s 0 = v ∧ s 1 = w ∧ k ≤ (lb m).length ∧ s 5 = .int ((k : Int) - 1) ∧ (lb m).drop k = (lb n).drop k
theorem r_order {H : List O} {v w : V} {m n : Nat} (hv : SL H v (lb m)) (hw : SL H w (lb n)) (hm : (lb m).length < 4611686018427387904) (hn : (lb n).length < 4611686018427387904) (K : V → List O → Prop) :
    Fx D0 fn_ref1_order [v, w] H K = K (.int (sg m n)) H := by
  refine Fx_is ?_ K
  have hv' : ∀ X, SL X (frzV v (lm (lb m)) (lb m).length) (lb m) := fun X => frzV_slice hv X
  have hw' : ∀ X, SL X (frzV w (lm (lb n)) (lb n).length) (lb n) := fun X => frzV_slice hw X
  have has : [v, w].mapM (frz H depth) = some [frzV v (lm (lb m)) (lb m).length, frzV w (lm (lb n)) (lb n).length] := by
    simp only [mapM_cons', mapM_nil', frz_s hv (lm_lit _), frz_s hw (lm_lit _)]; rfl
  refine Fx_ofp d_ref1_order has ?_
  generalize frzV v (lm (lb m)) (lb m).length = v' at *
  generalize frzV w (lm (lb n)) (lb n).length = w' at *
  have hlv := len_s (hv' [])
  have hlw := len_s (hw' [])
  by_cases hle : (lb m).length = (lb n).length
  · have e1 : IntKind.i64.wrap (((lb n).length : Int) - 1) = ((lb n).length : Int) - 1 := by rw [wi (by omega) (by omega)]
    simp [go_sem, F_ref1_order, hlv, hlw, hle, e1]
    refine Bx_rounds (orI m n v' w') ?_ (lb m).length _ _ ⟨rfl, rfl, rfl, Nat.le_refl _, by simp [go_sem, hle], by simp [hle]⟩
    rintro k s X ⟨rfl, h0, h1, hk, h5, hd⟩
    refine wpB_ok ?_
    cases k with
    | zero =>
      have : m = n := lb_inj (by simpa using hd)
      subst this
      simp [go_sem, h0, h1, h5, sg]
    | succ k =>
      have w1 : IntKind.i64.wrap ((k : Int) - 1) = (k : Int) - 1 := by rw [wi (by omega) (by omega)]
      have i1 := fun K X => ia_s (K := K) (q := .i64) (n := ((k : Nat) : Int)) (hv' X) (by omega) (by omega)
      have i2 := fun K X => ld_s (K := K) (i := k) (k := 0) (hv' X) (by simp [lm_len]; omega)
      have i3 := fun K X => ia_s (K := K) (q := .i64) (n := ((k : Nat) : Int)) (hw' X) (by omega) (by omega)
      have i4 := fun K X => ld_s (K := K) (i := k) (k := 0) (hw' X) (by simp [lm_len]; omega)
      simp [lm_get] at i1 i2 i3 i4
      have hkm : k < (lb m).length := by omega
      have hkn : k < (lb n).length := by omega
      have h5 : s 5 = .int (k : Int) := by rw [h5]; congr 3; omega
      by_cases heq : (lb m)[k] = (lb n)[k]
      · simp [go_sem, h0, h1, h5, i1, i2, i3, i4, heq, w1]
        refine ⟨k, by omega, rfl, by simp [go_sem, h0], by simp [go_sem, h1], by omega, by simp [go_sem], ?_⟩
        rw [List.drop_eq_getElem_cons hkm, List.drop_eq_getElem_cons hkn, heq, hd]
      · have hb : (((lb m)[k] : Int) != ((lb n)[k] : Int)) = true := by simp; omega
        by_cases hlt : (lb m)[k] < (lb n)[k]
        · have := lv_less (lb_limbs m) hkm hkn hd hlt
          rw [lv_lb, lv_lb] at this
          simp [go_sem, h0, h1, h5, i1, i2, i3, i4, hb, hlt, sg, this]
        · have := lv_less (lb_limbs n) hkn hkm hd.symm (by omega)
          rw [lv_lb, lv_lb] at this
          have h2 : ¬ m < n := by omega
          simp [go_sem, h0, h1, h5, i1, i2, i3, i4, hb, hlt, sg, this, h2]
  · have hb : (((lb m).length : Int) != ((lb n).length : Int)) = true := by simp; omega
    rcases Nat.lt_or_ge (lb m).length (lb n).length with h | h
    · have := lb_short h
      simp [go_sem, F_ref1_order, hlv, hlw, hb, h, sg, this]
    · have := lb_short (show (lb n).length < (lb m).length by omega)
      have h2 : ¬ m < n := by omega
      have h3 : ¬ (lb m).length < (lb n).length := by omega
      simp [go_sem, F_ref1_order, hlv, hlw, hb, h3, sg, this, h2]
end Go.Proofs.Vm
/-! The package insolvencyref1: text, short. -/
namespace Go.Proofs.Vm
open Go Go.Proofs.Na

section
variable {t : TypeId} {sz bytes m n h : Nat} {y : V} {ys l : List V} {H : List O} {K : V → List O → Prop}
theorem app_own (hy : sliceV H sz y = some (ys, m)) (hx : H[h]? = some (.cells l t sz)) (hn : n * sz ≤ l.length) (hb : (n + m) * bytes ≤ 140737488355328) (hl : ys.all V.leaf = true) :
    appK t sz bytes (.osl h 0 n) y H K = K (.osl H.length 0 (n + m)) (H.set h .dead ++ [.cells (l.take (n * sz) ++ ys) t sz]) := by
  simp [appK, wpI, evI, Opd.ev, hy, hx, hn, wpO]
  constructor
  · rintro ⟨_, _, ⟨rfl, rfl⟩, _, _, h⟩; exact h
  · intro h; exact ⟨_, _, ⟨rfl, rfl⟩, by simpa using hl, hb, h⟩
theorem app_nil (hy : sliceV H sz y = some (ys, m)) (hm : m ≠ 0) (hb : m * bytes ≤ 140737488355328) (hl : ys.all V.leaf = true) :
    appK t sz bytes .nils y H K = K (.osl H.length 0 m) (H ++ [.cells ys t sz]) := by
  simp [appK, wpI, evI, Opd.ev, hy, wpO]
  constructor
  · rintro ⟨_, _, ⟨rfl, rfl⟩, _, _, h⟩; exact (h hm).2
  · intro h; exact ⟨_, _, ⟨rfl, rfl⟩, by simpa using hl, fun e => absurd e hm, fun _ => ⟨hb, h⟩⟩
end
theorem bu_append (a b : List UInt8) : bu (a ++ b) = bu a ++ bu b := by simp [bu]
theorem bu_leaf (l : List UInt8) : (bu l).all V.leaf = true := by simp [bu, V.leaf]
/-- A limb's bytes, the highest first. -/
def b4 (x : Nat) : List UInt8 := [UInt8.ofNat (x / 16777216), UInt8.ofNat (x / 65536), UInt8.ofNat (x / 256), UInt8.ofNat x]
theorem nv_b4 {x : Nat} (h : x < BB) : nv (b4 x) = x := by
  have hB : BB = 4294967296 := rfl
  simp [b4, nv, UInt8.toNat_ofNat']
  omega

def txI (t : List Nat) (w : V) (k : Nat) (s : Nat → V) (X : List O) : Prop :=
  ∃ b h c, k ≤ t.length ∧ s 0 = w ∧ s 3 = .osl h 0 b.length ∧ s 4 = .int ((k : Int) - 1) ∧ X[h]? = some (.cells c ty_uint8 1) ∧ c.take b.length = bu b ∧ b.length ≤ c.length ∧ b.length = 4 * (t.length - k) ∧ nv b = lv (t.drop k)
theorem r_text {H : List O} {v : V} {l : List Nat} (hv : SL H v l) (hl : Limbs l) (hlen : l.length ≤ 70368744177664 / 65536) (K : V → List O → Prop) : Fx D0 fn_ref1_text [v] H K = K (st (nbl (lv l))) H := by
  refine Fx_is ?_ K
  have hw : ∀ X, SL X (frzV v (lm l) l.length) l := fun X => frzV_slice hv X
  generalize hwe : frzV v (lm l) l.length = w at hw
  refine Fx_ofp d_ref1_text (as := [w]) (by simp only [mapM_cons', mapM_nil', frz_s hv (lm_lit l), hwe]; rfl) ?_
  have p1 := fun K X => r_strip (K := K) (hw X) (by omega)
  have htr := trimN_le l
  have hw2 : ∀ X, SL X (takeV 1 w (trimN l)) (l.take (trimN l)) := fun X => by
    have := take_slice (hw X) htr
    unfold SL
    rw [this]
    simp [lm, List.map_take, Nat.min_eq_left htr]
  have hls : Limbs (l.take (trimN l)) := fun x hx => hl x (List.mem_of_mem_take hx)
  have hlt : (l.take (trimN l)).length ≤ 70368744177664 / 65536 := by simp; omega
  rw [← lv_trim l]
  generalize takeV 1 w (trimN l) = w2 at *
  generalize l.take (trimN l) = t at *
  have hle := len_s (hw2 [])
  have e1 : IntKind.i64.wrap (4 * (t.length : Int)) = ((4 * t.length : Nat) : Int) := by rw [wi (by omega) (by omega)]; omega
  have e2 : IntKind.i64.wrap ((t.length : Int) - 1) = (t.length : Int) - 1 := by rw [wi (by omega) (by omega)]
  have e4 : ((4 * t.length : Nat) : Int) ≤ 140737488355328 := by omega
  have e5 : (0 : Int) ≤ ((4 * t.length : Nat) : Int) := by omega
  simp [go_sem, F_ref1_text, p1, hle, -Int.natCast_mul, e1, e2, e4, e5]
  refine Bx_rounds (txI t w2) ?_ t.length _ _ ⟨[], 0, _, Nat.le_refl _, rfl, rfl, rfl, rfl, rfl, Nat.zero_le _, by simp, by simp [nv_nil, lv]⟩
  rintro k s X ⟨b, h, c, hk, h0, h3, h4, hX, hc, hbc, hbl, hnv⟩
  refine wpB_ok ?_
  cases k with
  | zero =>
    have hstr : ev1 (.str (.c (.osl h 0 b.length))) X = some (st b, X) := by
      have hs := slice_own (sz := 1) (off := 0) (n := b.length) hX (by omega)
      simp only [ev1, evI, Opd.ev, hs, List.drop_zero, Nat.mul_one]
      rw [hc, bytesV_bu]; rfl
    have p2 := fun K X => r_Normalize (K := K) (H := X) (l := b) (by omega)
    rw [tidy_eq, hnv, List.drop_zero] at p2
    simp [go_sem, h0, h3, h4, hstr, p2]
  | succ k =>
    have hkt : k < t.length := by omega
    have hx := hls _ (List.getElem_mem hkt)
    have hB : BB = 4294967296 := rfl
    have w1 : IntKind.i64.wrap ((k : Int) - 1) = (k : Int) - 1 := by rw [wi (by omega) (by omega)]
    have i1 := fun K X => ia_s (K := K) (q := .i64) (n := ((k : Nat) : Int)) (hw2 X) (by omega) (by omega)
    have i2 := fun K X => ld_s (K := K) (i := k) (k := 0) (hw2 X) (by simp [lm_len]; omega)
    simp [lm_get] at i1 i2
    have h4 : s 4 = .int (k : Int) := by rw [h4]; congr 3; omega
    generalize hxe : t[k] = x at *
    have f1 : IntKind.u8.wrap ((x : Int).fdiv 16777216) = ((UInt8.ofNat (x / 16777216)).toNat : Int) := by
      rw [w8m, show (16777216 : Int) = ((16777216 : Nat) : Int) from rfl, fdivN, UInt8.toNat_ofNat']; omega
    have f2 : IntKind.u8.wrap ((x : Int).fdiv 65536) = ((UInt8.ofNat (x / 65536)).toNat : Int) := by
      rw [w8m, show (65536 : Int) = ((65536 : Nat) : Int) from rfl, fdivN, UInt8.toNat_ofNat']; omega
    have f3 : IntKind.u8.wrap ((x : Int).fdiv 256) = ((UInt8.ofNat (x / 256)).toNat : Int) := by
      rw [w8m, show (256 : Int) = ((256 : Nat) : Int) from rfl, fdivN, UInt8.toNat_ofNat']; omega
    have f4 : IntKind.u8.wrap (x : Int) = ((UInt8.ofNat x).toNat : Int) := by
      rw [w8m, UInt8.toNat_ofNat']; omega
    have hh : h < X.length := by
      rcases Nat.lt_or_ge h X.length with h1 | h1
      · exact h1
      · rw [List.getElem?_eq_none h1] at hX; cases hX
    have hys : sliceV (X ++ [.cells (bu (b4 x)) ty_uint8 1]) 1 (.osl X.length 0 4) = some (bu (b4 x), 4) := by
      rw [slice_own (L := bu (b4 x)) (t := ty_uint8) (by simp) (by simp [bu, b4])]
      simp [bu, b4]
    have hX2 : (X ++ [O.cells (bu (b4 x)) ty_uint8 1])[h]? = some (.cells c ty_uint8 1) := by rw [List.getElem?_append_left hh]; exact hX
    have i3 := fun K => app_own (K := K) (bytes := 1) (n := b.length) hys hX2 (by omega) (by omega) (bu_leaf _)
    have eb : bu (b4 x) = [u8 (UInt8.ofNat (x / 16777216)).toNat, u8 (UInt8.ofNat (x / 65536)).toNat, u8 (UInt8.ofNat (x / 256)).toNat, u8 (UInt8.ofNat x).toNat] := rfl
    generalize (UInt8.ofNat (x / 16777216)).toNat = y1 at *
    generalize (UInt8.ofNat (x / 65536)).toNat = y2 at *
    generalize (UInt8.ofNat (x / 256)).toNat = y3 at *
    generalize (UInt8.ofNat x).toNat = y4 at *
    have hnx := nv_b4 hx
    have hbl4 : (bu (b4 x)).length = 4 := by rw [eb]; rfl
    rw [eb] at i3
    simp only [List.length_append, List.length_cons, List.length_nil, Nat.mul_one] at i3
    simp [go_sem, h0, h3, h4, i1, i2, w1, f1, f2, f3, f4, List.replicate, i3]
    refine ⟨k, by omega, b ++ b4 x, X.length + 1, c.take b.length ++ bu (b4 x), by omega, by simp [go_sem, h0], by simp [go_sem, b4], by simp [go_sem], ?_, ?_, ?_, ?_, ?_⟩
    · rw [List.getElem?_append_right (by simp)]; simp [eb]
    · rw [hc, ← bu_append, List.take_of_length_le (by rw [bu_len]; exact Nat.le_refl _)]
    · rw [hc, ← bu_append, bu_len]; exact Nat.le_refl _
    · simp [b4]; omega
    · rw [nv_append, hnv, hnx, lv_drop hkt]
      rw [show (b4 x).length = 4 from rfl, hB, hxe, show (256 : Nat) ^ 4 = 4294967296 from rfl]
      omega

def shI (a : List Nat) (d : Nat) (v : V) (k : Nat) (s : Nat → V) (X : List O) : Prop :=
  ∃ o r, k ≤ a.length ∧ X = [.cells (lm o) ty_uint32 1] ∧ s 0 = v ∧ s 1 = u32 d ∧ s 6 = .osl 0 0 a.length ∧ s 7 = u64 r ∧ s 8 = .int ((k : Int) - 1) ∧ o.length = a.length ∧ Limbs o ∧ r < d ∧ lv (a.drop k) = lv (o.drop k) * d + r
theorem r_short {H : List O} {v : V} {a : List Nat} {d : Nat} (hv : SL H v a) (ha : Limbs a) (hd : 0 < d) (hdB : d < BB) (hm : a.length ≤ 70368744177664 / 65536) (K : V → List O → Prop) :
    Fx D0 fn_ref1_short [v, u32 d] H K = K (.tup [LV (lb (lv a / d)), u32 (lv a % d)]) H := by
  refine Fx_is ?_ K
  have hv' : ∀ X, SL X (frzV v (lm a) a.length) a := fun X => frzV_slice hv X
  have has : [v, u32 d].mapM (frz H depth) = some [frzV v (lm a) a.length, u32 d] := by
    simp only [mapM_cons', mapM_nil', frz_s hv (lm_lit _)]; rfl
  refine Fx_ofp d_ref1_short has ?_
  generalize frzV v (lm a) a.length = v' at *
  have hlv := len_s (hv' [])
  have e4 : (a.length : Int) * 4 ≤ 140737488355328 := by omega
  have e1 : IntKind.i64.wrap ((a.length : Int) - 1) = (a.length : Int) - 1 := by rw [wi (by omega) (by omega)]
  have hBB : BB = 4294967296 := rfl
  simp [go_sem, F_ref1_short, hlv, e4, e1]
  refine Bx_rounds (shI a d v') ?_ a.length _ _ ⟨List.replicate a.length 0, 0, Nat.le_refl _, by simp [lm], rfl, rfl, rfl, rfl, rfl, by simp, limbs_zeros _, hd, by simp [lv]⟩
  rintro k s X ⟨o, r, hk, rfl, h0, h1, h6, h7, h8, hol, ho, hr, hinv⟩
  refine wpB_ok ?_
  cases k with
  | zero =>
    have hs := own_SL (H := [.cells (lm o) ty_uint32 1]) (h := 0) (o := o) (t := ty_uint32) rfl (Nat.le_of_eq hol.symm)
    rw [← hol, List.take_length] at hs
    have hle := trimN_le o
    have hout1 := out1_lm (H := [.cells (lm o) ty_uint32 1]) (h := 0) (o := o) (t := ty_uint32) rfl hle
    have w9 : IntKind.u32.wrap (r : Int) = (r : Int) := by rw [w32 (by omega) (by omega)]
    simp [go_sem, h0, h1, h6, h7, h8, w9]
    rw [← hol, r_strip hs (by omega)]
    have hq : lv a / d = lv o ∧ lv a % d = r := by
      rw [List.drop_zero, List.drop_zero] at hinv
      rw [hinv]
      refine ⟨?_, ?_⟩
      · rw [Nat.mul_comm, Nat.mul_add_div hd, Nat.div_eq_of_lt hr]; omega
      · rw [Nat.mul_comm, Nat.mul_add_mod, Nat.mod_eq_of_lt hr]
    simp [go_sem, takeV, hout1, hq.1, hq.2, h7, w9]
    rw [take_trim ho]
  | succ k =>
    have hlt : k < a.length := by omega
    have hai := ha _ (List.getElem_mem hlt)
    have w1 : IntKind.i64.wrap ((k : Int) - 1) = (k : Int) - 1 := by rw [wi (by omega) (by omega)]
    have i1 := fun K X => ia_s (K := K) (q := .i64) (n := ((k : Nat) : Int)) (hv' X) (by omega) (by omega)
    have i2 := fun K X => ld_s (K := K) (i := k) (k := 0) (hv' X) (by simp [lm_len]; omega)
    simp [lm_get] at i1 i2
    have w2 : IntKind.u64.wrap ((r : Int) * 4294967296) = ((r * 4294967296 : Nat) : Int) := by rw [w64 (by omega) (by omega)]; omega
    have w3 : IntKind.u64.wrap (a[k] : Int) = (a[k] : Int) := by rw [w64 (by omega) (by omega)]
    have w4 : IntKind.u64.wrap (d : Int) = (d : Int) := by rw [w64 (by omega) (by omega)]
    have w5 := shl_or (r := r) (a := a[k]) (by omega) (by omega)
    have h8 : s 8 = .int (k : Int) := by rw [h8]; congr 3; omega
    have hinv2 : lv (a.drop k) = (r * BB + a[k]) + lv (o.drop (k + 1)) * d * BB := by
      rw [lv_drop hlt, hinv]; grind
    have htlt : r * 4294967296 + a[k] < 4294967296 * d := by
      have : (r + 1) * 4294967296 ≤ d * 4294967296 := Nat.mul_le_mul_right _ hr
      omega
    rw [hBB] at hinv2
    obtain ⟨t, ht⟩ : ∃ t, t = r * 4294967296 + a[k] := ⟨_, rfl⟩
    rw [← ht] at hinv2 htlt w5
    have hq : t / d < 4294967296 := Nat.div_lt_of_lt_mul (by rw [Nat.mul_comm]; exact htlt)
    have hr' := Nat.mod_lt t hd
    have h9 := Nat.mod_add_div t d
    have w8 : (t : Int).tmod (d : Int) = ((t % d : Nat) : Int) := tmodN t d
    have w6 : IntKind.u64.wrap ((t : Int) / (d : Int)) = ((t / d : Nat) : Int) := by
      rw [← Int.natCast_ediv]
      generalize t / d = q at hq
      rw [w64 (by omega) (by omega)]
    obtain ⟨q, hqe⟩ : ∃ q, q = t / d := ⟨_, rfl⟩
    obtain ⟨r', hre⟩ : ∃ r', r' = t % d := ⟨_, rfl⟩
    rw [← hqe] at hq h9 w6
    rw [← hre] at hr' h9 w8
    have w7 : IntKind.u32.wrap (q : Int) = (q : Int) := by rw [w32 (by omega) (by omega)]
    have w10 : min 32 64 = 32 := rfl
    simp [go_sem, h0, h1, h6, h7, h8, -Int.natCast_mul, -Int.natCast_add, -Int.natCast_ediv, -Int.natCast_emod, w1, w2, w3, w4, w5, w6, w7, w8, i1, i2]
    have hd0 : ¬ d = 0 := by omega
    refine ⟨hd0, hlt, by simp [lm_len]; omega, hd0, k, by omega, o.set k q, r', by omega, ?_, by simp [go_sem, h0], by simp [go_sem, h1], by simp [go_sem, h6], by simp [go_sem], by simp [go_sem], by simp [hol], limbs_set ho hq, hr', ?_⟩
    · rw [← lm_set, ← set_eq _ _ (by simp [lm_len]; omega)]; simp
    · rw [hinv2, lv_drop (l := o.set k q) (i := k) (by simp; omega), List.drop_set_of_lt (by omega)]
      simp only [List.getElem_set_self]
      have e : (q + BB * lv (o.drop (k + 1))) * d = d * q + lv (o.drop (k + 1)) * d * BB := by grind
      rw [e, hBB]; omega
end Go.Proofs.Vm
/-! The package insolvencyref1: shifted. -/
namespace Go.Proofs.Vm
open Go Go.Proofs.Na

theorem pow31 {k : Nat} (h : k ≤ 31) : 2 ^ k ≤ 2147483648 := by rw [show 2147483648 = 2 ^ 31 from rfl]; exact Nat.pow_le_pow_right (by omega) h
theorem fit_more {a : List Nat} (ha : Limbs a) {by_ : Nat} (hby : by_ ≤ 31) : 2 * (lv a * 2 ^ by_) < BB ^ (a.length + 1) := by
  have hP := pow31 hby
  have hP0 : 0 < 2 ^ by_ := Nat.pow_pos (by omega)
  have h1 := lv_lt ha
  have h2 : lv a * 2 ^ by_ < BB ^ a.length * 2147483648 := Nat.lt_of_lt_of_le (Nat.mul_lt_mul_of_pos_right h1 hP0) (Nat.mul_le_mul_left _ hP)
  have h3 : BB ^ (a.length + 1) = 2 * (BB ^ a.length * 2147483648) := by
    rw [Nat.pow_succ, show BB = 2 * 2147483648 from rfl]; grind
  omega

def sfI (H : List O) (a : List Nat) (by_ : Nat) (v : V) (m : Nat) (s : Nat → V) (X : List O) : Prop :=
  ∃ i o, m = a.length - i ∧ i ≤ a.length ∧ X = H ++ [.cells (lm o) ty_uint32 1] ∧ s 0 = v ∧ s 1 = u64 by_ ∧ s 5 = .osl H.length 0 (a.length + 1) ∧ s 6 = .int (i : Int) ∧
    o.length = a.length + 1 ∧ Limbs o ∧ lv o = lv (a.take i) * 2 ^ by_
theorem r_shifted {H : List O} {v : V} {a : List Nat} {by_ : Nat} (hv : SL H v a) (ha : Limbs a) (hby : by_ ≤ 31) (hm : a.length ≤ 70368744177664 / 65536) (K : V → List O → Prop) :
    Fx D0 fn_ref1_shifted [v, u64 by_] H K = K (.osl H.length 0 (a.length + 1)) (H ++ [.cells (lm (ln (a.length + 1) (lv a * 2 ^ by_))) ty_uint32 1]) := by
  refine Fx_is ?_ K
  refine Fx_of d_ref1_shifted ?_
  have hle := len_s hv
  have hfit := fit_more ha hby
  have e1 : IntKind.i64.wrap ((a.length : Int) + 1) = ((a.length + 1 : Nat) : Int) := by rw [wi (by omega) (by omega)]; omega
  have e4 : ((a.length + 1 : Nat) : Int) * 4 ≤ 140737488355328 := by omega
  have e5 : (0 : Int) ≤ ((a.length + 1 : Nat) : Int) := by omega
  simp [go_sem, F_ref1_shifted, hle, e1, e4, e5, -Int.natCast_add]
  rw [rep32]
  refine Bx_rounds (sfI H a by_ v) ?_ a.length _ _ ⟨0, List.replicate (a.length + 1) 0, rfl, Nat.zero_le _, rfl, rfl, rfl, rfl, rfl, by simp, limbs_zeros _, by simp [lv, lv_zeros]⟩
  rintro m s X ⟨i, o, rfl, hi, rfl, h0, h1, h5, h6, hol, ho, hinv⟩
  refine wpB_ok ?_
  have hv' := SL_app hv [.cells (lm o) ty_uint32 1]
  by_cases hlt : i < a.length
  · have w4 : IntKind.i64.wrap ((i : Int) + 1) = ((i + 1 : Nat) : Int) := by rw [wi (by omega) (by omega)]; omega
    have i1 := fun K => ia_s (K := K) (q := .i64) (n := ((i : Nat) : Int)) hv' (by omega) (by omega)
    have i2 := fun K => ld_s (K := K) (i := i) (k := 0) hv' (by simp [lm_len]; omega)
    simp [lm_get] at i1 i2
    obtain ⟨h, g1, g2, g3, g4⟩ := shift_inv (n := a.length + 1) ha ho hol hlt (by omega) hby (by omega) hinv
    have i3 := lm_at h
    have hai := ha _ (List.getElem_mem hlt)
    have hoi := ho _ (List.getElem_mem h)
    have hPB := pow31 hby
    obtain ⟨h9, h10, h11⟩ := g3 (by omega)
    generalize a[i] = u at *
    generalize hoe : o[i] = w at *
    have htl : u * 2 ^ by_ < 18446744073709551616 := by
      have := Nat.mul_le_mul (show u ≤ 4294967295 by unfold BB at hai; omega) hPB
      omega
    have w1 : IntKind.u64.wrap (u : Int) = (u : Int) := by rw [w64 (by omega) (by unfold BB at hai; omega)]
    have w2 : IntKind.u64.wrap ((u : Int) * 2 ^ min by_ 64) = ((u * 2 ^ by_ : Nat) : Int) := by
      rw [Nat.min_eq_left (by omega), show (2 : Int) ^ by_ = ((2 ^ by_ : Nat) : Int) by push_cast; rfl, ← Int.natCast_mul, w64 (by omega) (by omega)]
    obtain ⟨t, ht⟩ : ∃ t, t = u * 2 ^ by_ := ⟨_, rfl⟩
    rw [← ht] at w2 g1 g2 h11 htl
    have w3 : IntKind.u32.wrap (t : Int) = ((t % BB : Nat) : Int) := by rw [w32m]; unfold BB; omega
    have hml := Nat.mod_lt t BB_pos
    have hdl : t / BB < BB := by unfold BB; omega
    have w5 : IntKind.u32.wrap ((t : Int).fdiv 4294967296) = ((t / BB : Nat) : Int) := by
      rw [show (4294967296 : Int) = ((4294967296 : Nat) : Int) from rfl, fdivN, w32 (by omega) (by omega)]; unfold BB; omega
    have w6 : bits .or .u32 (w : Int) ((t % BB : Nat) : Int) = ((w + t % BB : Nat) : Int) := by
      rw [u32_or_nat _ _ (by unfold BB at hoi; omega) (by unfold BB at hml ⊢; omega), g1]
    have e : (lm o).take i ++ u32 (w + t % BB) :: (lm o).drop (i + 1) = lm (o.set i (w + t % BB)) := by
      rw [← lm_set, ← set_eq _ _ (by simp [lm_len]; omega)]; simp
    have ho1 := limbs_set ho (i := i) g2
    have b1 : (i : Int) < ((a.length + 1 : Nat) : Int) := by omega
    have b2 : ((i + 1 : Nat) : Int) < ((a.length + 1 : Nat) : Int) := by omega
    simp [go_sem, h0, h1, h5, h6, hle, hlt, -Int.natCast_add, -Int.natCast_ediv, -Int.natCast_emod, -Int.natCast_mul, w1, w2, w3, w4, w5, w6, i1, i2, i3, get_last, set_last, b1, b2, e]
    refine ⟨by simp [lm_len]; omega, by simp [lm_len]; omega, a.length - (i + 1), by omega, i + 1, (o.set i (w + t % BB)).set (i + 1) (t / BB), rfl, by omega, ?_, by simp [go_sem, h0], by simp [go_sem, h1], by simp [go_sem, h5], by simp [go_sem], by simp [hol], limbs_set ho1 hdl, h11⟩
    rw [← lm_set (o.set i (w + t % BB)) (i + 1), ← set_eq (lm (o.set i (w + t % BB))) (u32 (t / BB)) (by simp [lm_len]; omega)]; simp
  · have hi' : i = a.length := by omega
    subst hi'
    rw [List.take_length] at hinv
    simp [go_sem, h0, h1, h5, h6, hle]
    rw [lv_uniq ho hol hinv]
end Go.Proofs.Vm
/-! The package insolvencyref1: long, the guess. -/
namespace Go.Proofs.Vm
open Go Go.Proofs.Na

def rlB (k : Nat) : B := F_ref1_long.body.loops.getD k .skip
def rlI (k : Nat) : B := (rlB 1).loops.getD k .skip
/-- What stays in a round: lengths, the shift, the three slices, the place. -/
structure Frm (m n j nz : Nat) (s : Nat → V) : Prop where
  f6 : s 6 = .int (n : Int)
  f7 : s 7 = u64 nz
  f8 : s 8 = .osl 0 0 (m + 1)
  f9 : s 9 = .osl 1 0 n
  f10 : s 10 = .osl 2 0 (m - n + 1)
  f11 : s 11 = .int (j : Int)
def rgI (Y : List O) (m n j nz top d1 dg : Nat) (q : Nat) (s : Nat → V) (X : List O) : Prop :=
  ∃ r, X = Y ∧ Frm m n j nz s ∧ s 13 = u64 q ∧ s 14 = u64 r ∧ q * d1 + r = top ∧ dg ≤ q ∧ q ≤ 4294967297 ∧ r < BB
theorem rguess_loop {Y : List O} {m n j nz top u2 u' d1 d2 d' Wp : Nat} (G : Guess top u2 u' d1 d2 d' Wp) {U D : List Nat} (hn : 2 ≤ n) (hml : m ≤ 17179869184) (hj : j + n ≤ m)
    (hU : Y[0]? = some (.cells (lm U) ty_uint32 1)) (hD : Y[1]? = some (.cells (lm D) ty_uint32 1)) (g1 : D[n - 1]? = some d1) (g2 : D[n - 2]? = some d2) (g3 : U[j + n - 2]? = some u2)
    {s : Nat → V} {R : Ex → (Nat → V) → List O → Prop} {q0 r0 : Nat} (F : Frm m n j nz s) (h13 : s 13 = u64 q0) (h14 : s 14 = u64 r0) (hq0 : q0 * d1 + r0 = top) (hdg : G.digit ≤ q0) (hqb : q0 ≤ 4294967297) (hr0 : r0 < BB)
    (hR : ∀ (s' : Nat → V) (q : Nat), Frm m n j nz s' → s' 13 = u64 q → q < BB → G.digit ≤ q → q ≤ G.digit + 1 → R (.exit 4) s' Y) :
    Bx D0 (.loop (rlI 0)) s Y R := by
  refine Bx_rounds (rgI Y m n j nz top d1 G.digit) ?_ q0 _ _ ⟨r0, rfl, F, h13, h14, hq0, hdg, hqb, hr0⟩
  clear F h13 h14 hq0 hdg hqb hr0 s
  rintro q s X ⟨r, rfl, ⟨f6, f7, f8, f9, f10, f11⟩, h13, h14, hq, hdg, hqb, hr⟩
  refine wpB_ok ?_
  have hBB : BB = 4294967296 := rfl
  have c1 := G.hd1
  have c2 := G.hd2
  have c3 := G.hu2
  have w1 : IntKind.i64.wrap ((n : Int) - 1) = ((n - 1 : Nat) : Int) := by rw [wi (by omega) (by omega)]; omega
  have w2 : IntKind.i64.wrap ((n : Int) - 2) = ((n - 2 : Nat) : Int) := by rw [wi (by omega) (by omega)]; omega
  have w3 : IntKind.u64.wrap (d1 : Int) = (d1 : Int) := by rw [w64 (by omega) (by omega)]
  have w4 : IntKind.u64.wrap (d2 : Int) = (d2 : Int) := by rw [w64 (by omega) (by omega)]
  have w5 : IntKind.u64.wrap (u2 : Int) = (u2 : Int) := by rw [w64 (by omega) (by omega)]
  have w11 : IntKind.i64.wrap ((j : Int) + (n : Int)) = ((j + n : Nat) : Int) := by rw [wi (by omega) (by omega)]; omega
  have w12 : IntKind.i64.wrap (((j + n : Nat) : Int) - 2) = ((j + n - 2 : Nat) : Int) := by rw [wi (by omega) (by omega)]; omega
  have i1 : (lm D)[n - 1]? = some (u32 d1) := by simp [lm, g1]
  have i2 : (lm D)[n - 2]? = some (u32 d2) := by simp [lm, g2]
  have i3 : (lm U)[j + n - 2]? = some (u32 u2) := by simp [lm, g3]
  have l1 : n - 1 < n := by omega
  have l2 : n - 2 < n := by omega
  have l3 : j + n - 2 < m + 1 := by omega
  have l3' : ((j + n - 2 : Nat) : Int) < (m : Int) + 1 := by omega
  have l3'' : ((j + n - 2 : Nat) : Int) < ((m + 1 : Nat) : Int) := by omega
  -- a round
  have round : q - 1 < q → G.digit ≤ q - 1 → 1 ≤ q → ∀ w : Nat → V, Frm m n j nz w → w 13 = u64 (q - 1) → w 14 = u64 (r + d1) → r + d1 < BB →
      ∃ k, k < q ∧ rgI X m n j nz top d1 G.digit k w X := fun a1 a2 a3 w F q7 q8 hlt => by
    refine ⟨q - 1, a1, r + d1, rfl, F, q7, q8, ?_, a2, by omega, hlt⟩
    rw [← hq]
    obtain ⟨p, rfl⟩ : ∃ p, q = p + 1 := ⟨q - 1, by omega⟩
    rw [Nat.add_sub_cancel, Nat.add_mul]; omega
  have over : ∀ {a : Nat}, G.digit < a → G.digit ≤ a - 1 ∧ 1 ≤ a := fun h => ⟨by omega, by omega⟩
  have w6 : 1 ≤ q → IntKind.u64.wrap ((q : Int) - 1) = ((q - 1 : Nat) : Int) := fun h => by rw [w64 (by omega) (by omega)]; omega
  have w7 : IntKind.u64.wrap ((r : Int) + (d1 : Int)) = ((r + d1 : Nat) : Int) := by rw [w64 (by omega) (by omega)]; omega
  have brk : 1 ≤ q → G.digit ≤ q - 1 → ¬ r + d1 < BB → q - 1 < BB ∧ G.digit ≤ q - 1 ∧ q - 1 ≤ G.digit + 1 := fun a3 a2 hge => by
    have he : (q - 1) * d1 + (r + d1) = top := by
      rw [← hq]
      obtain ⟨p, rfl⟩ : ∃ p, q = p + 1 := ⟨q - 1, by omega⟩
      rw [Nat.add_sub_cancel, Nat.add_mul]; omega
    obtain ⟨b1, b2⟩ := G.broke he (by omega)
    exact ⟨b1, a2, G.near he b1 b2⟩
  by_cases hge : 4294967296 ≤ q
  · have hge' : (4294967296 : Int) ≤ q := by omega
    obtain ⟨a2, a3⟩ := over (a := q) (by have := G.digit_lt; omega)
    have w6 := w6 a3
    by_cases hb : r + d1 < BB
    · have hb' : ¬ (4294967296 : Int) ≤ ((r + d1 : Nat) : Int) := by omega
      simp [rlI, rlB, F_ref1_long, B.loops, go_sem, f6, f8, f9, f11, h13, h14, hge', hU, hD, -Int.natCast_add, w1, w2, w3, w4, w5, w6, w7, i1, i2, i3, l1, l2, l3, hb']
      exact round (by omega) a2 a3 _ ⟨by simp [go_sem, f6], by simp [go_sem, f7], by simp [go_sem, f8], by simp [go_sem, f9], by simp [go_sem, f10], by simp [go_sem, f11]⟩ (by simp [go_sem]) (by simp [go_sem]) hb
    · have hb' : (4294967296 : Int) ≤ ((r + d1 : Nat) : Int) := by omega
      simp [rlI, rlB, F_ref1_long, B.loops, go_sem, f6, f8, f9, f11, h13, h14, hge', hU, hD, -Int.natCast_add, w1, w2, w3, w4, w5, w6, w7, i1, i2, i3, l1, l2, l3, hb']
      obtain ⟨b1, b2, b3⟩ := brk a3 a2 hb
      exact hR _ (q - 1) ⟨by simp [go_sem, f6], by simp [go_sem, f7], by simp [go_sem, f8], by simp [go_sem, f9], by simp [go_sem, f10], by simp [go_sem, f11]⟩ (by simp [go_sem]) b1 b2 b3
  · have hge' : ¬ (4294967296 : Int) ≤ q := by omega
    have hqd : q * d2 < 18446744073709551616 := by
      have : q * d2 ≤ 4294967295 * 4294967295 := Nat.mul_le_mul (by omega) (by omega)
      omega
    obtain ⟨p, hp⟩ : ∃ p, p = q * d2 := ⟨_, rfl⟩
    have w8 : IntKind.u64.wrap ((q : Int) * (d2 : Int)) = (p : Int) := by rw [← Int.natCast_mul, ← hp, w64 (by omega) (by omega)]
    have w9 : IntKind.u64.wrap ((r : Int) * 4294967296) = ((r * 4294967296 : Nat) : Int) := by rw [w64 (by omega) (by omega)]; omega
    have w10 := shl_or (r := r) (a := u2) (by omega) (by omega)
    by_cases hgt : r * 4294967296 + u2 < p
    · have hgt' : ((r * 4294967296 + u2 : Nat) : Int) < (p : Int) := by omega
      obtain ⟨a2, a3⟩ := over (a := q) (G.over hq (by rw [hBB, ← hp]; exact hgt))
      have w6 := w6 a3
      by_cases hb : r + d1 < BB
      · have hb' : ¬ (4294967296 : Int) ≤ ((r + d1 : Nat) : Int) := by omega
        simp [rlI, rlB, F_ref1_long, B.loops, go_sem, f6, f8, f9, f11, h13, h14, hge', hU, hD, -Int.natCast_add, -Int.natCast_mul, w1, w2, w3, w4, w5, w6, w7, w8, w9, w10, w11, w12, i1, i2, i3, l1, l2, l3, l3', l3'', hb', hgt']
        exact round (by omega) a2 a3 _ ⟨by simp [go_sem, f6], by simp [go_sem, f7], by simp [go_sem, f8], by simp [go_sem, f9], by simp [go_sem, f10], by simp [go_sem, f11]⟩ (by simp [go_sem]) (by simp [go_sem]) hb
      · have hb' : (4294967296 : Int) ≤ ((r + d1 : Nat) : Int) := by omega
        simp [rlI, rlB, F_ref1_long, B.loops, go_sem, f6, f8, f9, f11, h13, h14, hge', hU, hD, -Int.natCast_add, -Int.natCast_mul, w1, w2, w3, w4, w5, w6, w7, w8, w9, w10, w11, w12, i1, i2, i3, l1, l2, l3, l3', l3'', hb', hgt']
        obtain ⟨b1, b2, b3⟩ := brk a3 a2 hb
        exact hR _ (q - 1) ⟨by simp [go_sem, f6], by simp [go_sem, f7], by simp [go_sem, f8], by simp [go_sem, f9], by simp [go_sem, f10], by simp [go_sem, f11]⟩ (by simp [go_sem]) b1 b2 b3
    · have hgt' : ¬ ((r * 4294967296 + u2 : Nat) : Int) < (p : Int) := by omega
      have b3 := G.near hq (by omega) (by rw [hBB, ← hp]; omega)
      simp [rlI, rlB, F_ref1_long, B.loops, go_sem, f6, f8, f9, f11, h13, h14, hge', hU, hD, -Int.natCast_add, -Int.natCast_mul, w1, w2, w3, w4, w5, w8, w9, w10, w11, w12, i1, i2, i3, l1, l2, l3, l3', l3'', hgt']
      exact hR _ q ⟨by simp [go_sem, f6], by simp [go_sem, f7], by simp [go_sem, f8], by simp [go_sem, f9], by simp [go_sem, f10], by simp [go_sem, f11]⟩ (by simp [go_sem, h13]) (by omega) hdg b3
end Go.Proofs.Vm
/-! The package insolvencyref1: long, the loops that subtract and add back. -/
namespace Go.Proofs.Vm
open Go Go.Proofs.Na

theorem and32 {x : Nat} (h : x < 18446744073709551616) : bits .and .u64 (x : Int) 4294967295 = ((x % BB : Nat) : Int) := by
  have := u64_and_nat x 4294967295 h (by omega)
  rw [show ((4294967295 : Nat) : Int) = 4294967295 from rfl] at this
  rw [this, show (4294967295 : Nat) = 2 ^ 32 - 1 from rfl, Nat.and_two_pow_sub_one_eq_mod]; rfl
def rmI (Hp : List Nat → List O) (W D : List Nat) (m n j nz q : Nat) (k : Nat) (s : Nat → V) (X : List O) : Prop :=
  ∃ i o c b, k = n - i ∧ i ≤ n ∧ X = Hp o ∧ Frm m n j nz s ∧ s 13 = u64 q ∧ s 15 = u64 c ∧ s 16 = u64 b ∧ s 17 = .int (i : Int) ∧
    o.length = n + 1 ∧ Limbs o ∧ (∀ k, i ≤ k → o[k]? = W[k]?) ∧ c < BB ∧ b ≤ 1 ∧ lv (o.take i) + q * lv (D.take i) = lv (W.take i) + (b + c) * BB ^ i
theorem rmsub_loop {Hp : List Nat → List O} {A Z W D D' : List Nat} {m n j nz q : Nat}
    (gH : ∀ o, (Hp o)[0]? = some (.cells (lm (A ++ (o ++ Z))) ty_uint32 1)) (gD : ∀ o, (Hp o)[1]? = some (.cells (lm D') ty_uint32 1)) (gS : ∀ o o', (Hp o).set 0 (.cells (lm (A ++ (o' ++ Z))) ty_uint32 1) = Hp o')
    (hDD : ∀ i, i < n → D'[i]? = D[i]?) (hA : A.length = j) (hW : W.length = n + 1) (hDn : D.length = n) (hWl : Limbs W) (hDl : Limbs D) (hq : q < BB) (hml : m ≤ 17179869184) (hj : j + n ≤ m)
    {s : Nat → V} {R : Ex → (Nat → V) → List O → Prop} (F : Frm m n j nz s) (h13 : s 13 = u64 q) (h15 : s 15 = u64 0) (h16 : s 16 = u64 0) (h17 : s 17 = .int 0)
    (hR : ∀ (s' : Nat → V) (o : List Nat) (c b : Nat), Frm m n j nz s' → s' 13 = u64 q → s' 15 = u64 c → s' 16 = u64 b → o.length = n + 1 → Limbs o → o[n]? = W[n]? → c < BB → b ≤ 1 →
      lv (o.take n) + q * lv D = lv (W.take n) + (b + c) * BB ^ n → R (.exit 6) s' (Hp o)) :
    Bx D0 (.loop (rlI 1)) s (Hp W) R := by
  refine Bx_rounds (rmI Hp W D m n j nz q) ?_ n _ _ ⟨0, W, 0, 0, rfl, Nat.zero_le _, rfl, F, h13, h15, h16, h17, hW, hWl, fun j _ => rfl, BB_pos, by omega, by simp [lv]⟩
  clear F h13 h15 h16 h17 s
  rintro k s X ⟨i, o, c, b, rfl, hi, rfl, ⟨f6, f7, f8, f9, f10, f11⟩, h13, h15, h16, h17, hol, ho, hsame, hc, hb, hinv⟩
  refine wpB_ok ?_
  have hBB : BB = 4294967296 := rfl
  by_cases hlt : i < n
  · have w1 : IntKind.i64.wrap ((i : Int) + 1) = ((i + 1 : Nat) : Int) := by rw [wi (by omega) (by omega)]; omega
    have w11 : IntKind.i64.wrap ((j : Int) + (i : Int)) = ((j + i : Nat) : Int) := by rw [wi (by omega) (by omega)]; omega
    have hiD : i < D.length := by omega
    have hiW : i < W.length := by omega
    have tD := lv_take_succ hiD
    have tW := lv_take_succ hiW
    have hv := hDl _ (List.getElem_mem hiD)
    have hx := hWl _ (List.getElem_mem hiW)
    have hoi : o[i]? = some W[i] := by rw [hsame i (Nat.le_refl _), List.getElem?_eq_getElem hiW]
    have i1 : (lm D')[i]? = some (u32 D[i]) := by rw [lm, List.getElem?_map, hDD i hlt, List.getElem?_eq_getElem hiD]; rfl
    have i2 := lm_get3 (Z := Z) hA hoi
    generalize D[i] = v at *
    generalize W[i] = x at *
    have hqv : q * v ≤ 4294967295 * 4294967295 := Nat.mul_le_mul (by omega) (by omega)
    obtain ⟨p, hp⟩ : ∃ p, p = q * v := ⟨_, rfl⟩
    rw [← hp] at hqv
    have w2 : IntKind.u64.wrap (v : Int) = (v : Int) := by rw [w64 (by omega) (by omega)]
    have w2' : IntKind.u64.wrap (x : Int) = (x : Int) := by rw [w64 (by omega) (by omega)]
    have w3 : IntKind.u64.wrap ((q : Int) * (v : Int)) = (p : Int) := by rw [← Int.natCast_mul, ← hp, w64 (by omega) (by omega)]
    have w4 : IntKind.u64.wrap ((c : Int) + (p : Int)) = ((c + p : Nat) : Int) := by rw [w64 (by omega) (by omega)]; omega
    have hlc : (c + p) % BB + (c + p) / BB * BB = q * v + c := by rw [← hp, Nat.mul_comm, Nat.mod_add_div]; omega
    have hll := Nat.mod_lt (c + p) BB_pos
    have hc' : (c + p) / BB < BB := Nat.div_lt_of_lt_mul (by rw [show BB * BB = 18446744073709551616 from rfl]; omega)
    have w5 := and32 (x := c + p) (by omega)
    have w6 : ((c + p : Nat) : Int).fdiv 4294967296 = (((c + p) / BB : Nat) : Int) := by rw [show (4294967296 : Int) = ((4294967296 : Nat) : Int) from rfl, fdivN, hBB]; omega
    obtain ⟨low, hlow⟩ : ∃ low, low = (c + p) % BB := ⟨_, rfl⟩
    obtain ⟨c', hce⟩ : ∃ c', c' = (c + p) / BB := ⟨_, rfl⟩
    rw [← hlow] at w5 hlc hll
    rw [← hce] at w6 hlc hc'
    have w7 : IntKind.u64.wrap ((low : Int) + (b : Int)) = ((low + b : Nat) : Int) := by rw [w64 (by omega) (by omega)]; omega
    have l1 : ((j + i : Nat) : Int) < (m : Int) + 1 := by omega
    have l1' : ((j + i : Nat) : Int) < ((m + 1 : Nat) : Int) := by omega
    have l2 : j + i < m + 1 := by omega
    have next : ∀ (d b' : Nat), d + low + b = x + b' * BB → d < BB → b' ≤ 1 → ∀ w : Nat → V, Frm m n j nz w → w 13 = u64 q → w 15 = u64 c' → w 16 = u64 b' → w 17 = .int ((i + 1 : Nat) : Int) → ∃ k, k < n - i ∧ rmI Hp W D m n j nz q k w (Hp (o.set i d)) := fun d b' d1 d2 hb' w F q13 q15 q16 q17 =>
      ⟨n - (i + 1), by omega, i + 1, o.set i d, c', b', rfl, by omega, rfl, F, q13, q15, q16, q17, by simp [hol], limbs_set ho d2,
        fun j hj => by rw [List.getElem?_set, if_neg (by omega)]; exact hsame j (by omega), hc', hb', by rw [lv_take_set (by omega), tD, tW, Nat.pow_succ]; exact msub_inv hinv hlc d1⟩
    by_cases hxy : x < low + b
    · have w8 : IntKind.u64.wrap ((x : Int) + 4294967296) = ((x + 4294967296 : Nat) : Int) := by rw [w64 (by omega) (by omega)]; omega
      have w9 : IntKind.u64.wrap (((x + 4294967296 : Nat) : Int) - ((low + b : Nat) : Int)) = ((x + 4294967296 - (low + b) : Nat) : Int) := by rw [w64 (by omega) (by omega)]; omega
      obtain ⟨d, hd⟩ : ∃ d, d = x + 4294967296 - (low + b) := ⟨_, rfl⟩
      rw [← hd] at w9
      have w10 : IntKind.u32.wrap (d : Int) = (d : Int) := by rw [w32 (by omega) (by omega)]
      have e := lm_set3 (A := A) (o := o) (Z := Z) (k := i) (d := d) hA (by omega)
      have hxy' : (x : Int) < ((low + b : Nat) : Int) := by omega
      simp [rlI, rlB, F_ref1_long, B.loops, go_sem, f6, f8, f9, f11, h13, h15, h16, h17, hlt, gH, gD, gS, e, -Int.natCast_add, -Int.natCast_mul, w1, w2, w2', w3, w4, w5, w6, w7, w8, w9, w10, w11, i1, i2, l1, l1', l2, hxy']
      exact ⟨by simp [lm_len]; omega, next d 1 (by omega) (by omega) (by omega) _ ⟨by simp [go_sem, f6], by simp [go_sem, f7], by simp [go_sem, f8], by simp [go_sem, f9], by simp [go_sem, f10], by simp [go_sem, f11]⟩ (by simp [go_sem, h13]) (by simp [go_sem]) (by simp [go_sem]) (by simp [go_sem])⟩
    · have w9 : IntKind.u64.wrap ((x : Int) - ((low + b : Nat) : Int)) = ((x - (low + b) : Nat) : Int) := by rw [w64 (by omega) (by omega)]; omega
      obtain ⟨d, hd⟩ : ∃ d, d = x - (low + b) := ⟨_, rfl⟩
      rw [← hd] at w9
      have w10 : IntKind.u32.wrap (d : Int) = (d : Int) := by rw [w32 (by omega) (by omega)]
      have e := lm_set3 (A := A) (o := o) (Z := Z) (k := i) (d := d) hA (by omega)
      have hxy' : ¬ (x : Int) < ((low + b : Nat) : Int) := by omega
      simp [rlI, rlB, F_ref1_long, B.loops, go_sem, f6, f8, f9, f11, h13, h15, h16, h17, hlt, gH, gD, gS, e, -Int.natCast_add, -Int.natCast_mul, w1, w2, w2', w3, w4, w5, w6, w7, w9, w10, w11, i1, i2, l1, l1', l2, hxy']
      exact ⟨by simp [lm_len]; omega, next d 0 (by omega) (by omega) (by omega) _ ⟨by simp [go_sem, f6], by simp [go_sem, f7], by simp [go_sem, f8], by simp [go_sem, f9], by simp [go_sem, f10], by simp [go_sem, f11]⟩ (by simp [go_sem, h13]) (by simp [go_sem]) (by simp [go_sem]) (by simp [go_sem])⟩
  · have hi' : i = n := by omega
    subst hi'
    rw [List.take_of_length_le (l := D) (by omega)] at hinv
    simp [rlI, rlB, F_ref1_long, B.loops, go_sem, f6, f8, f9, f11, h13, h15, h16, h17]
    exact hR _ o c b ⟨by simp [go_sem, f6], by simp [go_sem, f7], by simp [go_sem, f8], by simp [go_sem, f9], by simp [go_sem, f10], by simp [go_sem, f11]⟩ (by simp [go_sem, h13]) (by simp [go_sem, h15]) (by simp [go_sem, h16]) hol ho (hsame _ (Nat.le_refl _)) hc hb hinv

def rbI (Hp : List Nat → List O) (W D : List Nat) (m n j nz q : Nat) (k : Nat) (s : Nat → V) (X : List O) : Prop :=
  ∃ i o c, k = n - i ∧ i ≤ n ∧ X = Hp o ∧ Frm m n j nz s ∧ s 13 = u64 q ∧ s 15 = u64 c ∧ s 23 = .int (i : Int) ∧
    o.length = n + 1 ∧ Limbs o ∧ (∀ k, i ≤ k → o[k]? = W[k]?) ∧ c ≤ 1 ∧ lv (o.take i) + c * BB ^ i = lv (W.take i) + lv (D.take i)
theorem rback_loop {Hp : List Nat → List O} {A Z W D D' : List Nat} {m n j nz q : Nat}
    (gH : ∀ o, (Hp o)[0]? = some (.cells (lm (A ++ (o ++ Z))) ty_uint32 1)) (gD : ∀ o, (Hp o)[1]? = some (.cells (lm D') ty_uint32 1)) (gS : ∀ o o', (Hp o).set 0 (.cells (lm (A ++ (o' ++ Z))) ty_uint32 1) = Hp o')
    (hDD : ∀ i, i < n → D'[i]? = D[i]?) (hA : A.length = j) (hW : W.length = n + 1) (hDn : D.length = n) (hWl : Limbs W) (hDl : Limbs D) (hml : m ≤ 17179869184) (hj : j + n ≤ m)
    {s : Nat → V} {R : Ex → (Nat → V) → List O → Prop} (F : Frm m n j nz s) (h13 : s 13 = u64 q) (h15 : s 15 = u64 0) (h23 : s 23 = .int 0)
    (hR : ∀ (s' : Nat → V) (o : List Nat) (c : Nat), Frm m n j nz s' → s' 13 = u64 q → s' 15 = u64 c → o.length = n + 1 → Limbs o → o[n]? = W[n]? → c ≤ 1 →
      lv (o.take n) + c * BB ^ n = lv (W.take n) + lv D → R (.exit 8) s' (Hp o)) :
    Bx D0 (.loop (rlI 2)) s (Hp W) R := by
  refine Bx_rounds (rbI Hp W D m n j nz q) ?_ n _ _ ⟨0, W, 0, rfl, Nat.zero_le _, rfl, F, h13, h15, h23, hW, hWl, fun j _ => rfl, by omega, by simp [lv]⟩
  clear F h13 h15 h23 s
  rintro k s X ⟨i, o, c, rfl, hi, rfl, ⟨f6, f7, f8, f9, f10, f11⟩, h13, h15, h23, hol, ho, hsame, hc, hinv⟩
  refine wpB_ok ?_
  have hBB : BB = 4294967296 := rfl
  by_cases hlt : i < n
  · have w1 : IntKind.i64.wrap ((i : Int) + 1) = ((i + 1 : Nat) : Int) := by rw [wi (by omega) (by omega)]; omega
    have w11 : IntKind.i64.wrap ((j : Int) + (i : Int)) = ((j + i : Nat) : Int) := by rw [wi (by omega) (by omega)]; omega
    have hiD : i < D.length := by omega
    have hiW : i < W.length := by omega
    have tD := lv_take_succ hiD
    have tW := lv_take_succ hiW
    have hv := hDl _ (List.getElem_mem hiD)
    have hx := hWl _ (List.getElem_mem hiW)
    have hoi : o[i]? = some W[i] := by rw [hsame i (Nat.le_refl _), List.getElem?_eq_getElem hiW]
    have i1 : (lm D')[i]? = some (u32 D[i]) := by rw [lm, List.getElem?_map, hDD i hlt, List.getElem?_eq_getElem hiD]; rfl
    have i2 := lm_get3 (Z := Z) hA hoi
    generalize D[i] = v at *
    generalize W[i] = x at *
    obtain ⟨d1, d2, hc'⟩ := add_digit hx hv hc
    have w2 : IntKind.u64.wrap (v : Int) = (v : Int) := by rw [w64 (by omega) (by omega)]
    have w2' : IntKind.u64.wrap (x : Int) = (x : Int) := by rw [w64 (by omega) (by omega)]
    have w3 : IntKind.u64.wrap ((c : Int) + (x : Int)) = ((c + x : Nat) : Int) := by rw [w64 (by omega) (by omega)]; omega
    have w4 : IntKind.u64.wrap (((c + x : Nat) : Int) + (v : Int)) = ((x + v + c : Nat) : Int) := by rw [w64 (by omega) (by omega)]; omega
    have w5 : IntKind.u32.wrap ((x + v + c : Nat) : Int) = (((x + v + c) % 4294967296 : Nat) : Int) := by rw [w32m]; omega
    have w6 : ((x + v + c : Nat) : Int).fdiv 4294967296 = (((x + v + c) / 4294967296 : Nat) : Int) := by rw [show (4294967296 : Int) = ((4294967296 : Nat) : Int) from rfl, fdivN]; omega
    generalize (x + v + c) % 4294967296 = d at d1 d2 w5
    generalize (x + v + c) / 4294967296 = c' at d1 w6 hc'
    have e := lm_set3 (A := A) (o := o) (Z := Z) (k := i) (d := d) hA (by omega)
    have l1 : ((j + i : Nat) : Int) < (m : Int) + 1 := by omega
    have l1' : ((j + i : Nat) : Int) < ((m + 1 : Nat) : Int) := by omega
    have l2 : j + i < m + 1 := by omega
    simp [rlI, rlB, F_ref1_long, B.loops, go_sem, f6, f8, f9, f11, h13, h15, h23, hlt, gH, gD, gS, e, -Int.natCast_add, -Int.natCast_mul, w1, w2, w2', w3, w4, w5, w6, w11, i1, i2, l1, l1', l2]
    exact ⟨by simp [lm_len]; omega, n - (i + 1), by omega, i + 1, o.set i d, c', rfl, by omega, rfl, ⟨by simp [go_sem, f6], by simp [go_sem, f7], by simp [go_sem, f8], by simp [go_sem, f9], by simp [go_sem, f10], by simp [go_sem, f11]⟩, by simp [go_sem, h13], by simp [go_sem], by simp [go_sem], by simp [hol], limbs_set ho d2,
      fun j hj => by rw [List.getElem?_set, if_neg (by omega)]; exact hsame j (by omega), hc', by rw [lv_take_set (by omega), tD, tW, Nat.pow_succ]; exact add_inv hinv d1⟩
  · have hi' : i = n := by omega
    subst hi'
    rw [List.take_of_length_le (l := D) (by omega)] at hinv
    simp [rlI, rlB, F_ref1_long, B.loops, go_sem, f6, f8, f9, f11, h13, h15, h23]
    exact hR _ o c ⟨by simp [go_sem, f6], by simp [go_sem, f7], by simp [go_sem, f8], by simp [go_sem, f9], by simp [go_sem, f10], by simp [go_sem, f11]⟩ (by simp [go_sem, h13]) (by simp [go_sem, h15]) hol ho (hsame _ (Nat.le_refl _)) hc hinv
end Go.Proofs.Vm
/-! The package insolvencyref1: long, a round. -/
namespace Go.Proofs.Vm
open Go Go.Proofs.Na

theorem rround {m n j nz : Nat} {A Z W Q D D' : List Nat} (hDD : ∀ i, i < n → D'[i]? = D[i]?)
    (hA : A.length = j) (hW : W.length = n + 1) (hQj : j < Q.length) (hQn : Q.length = m - n + 1) (hDn : D.length = n) (hWl : Limbs W) (hDl : Limbs D) (hn : 2 ≤ n) (hml : m ≤ 17179869184) (hj : j + n ≤ m) (half : BB ≤ 2 * D.getD (n - 1) 0) (hfit : lv W < lv D * BB)
    {s : Nat → V} {R : Ex → (Nat → V) → List O → Prop} (F : Frm m n j nz s)
    (hR : ∀ s' : Nat → V, s' 6 = .int (n : Int) → s' 7 = u64 nz → s' 8 = .osl 0 0 (m + 1) → s' 9 = .osl 1 0 n → s' 10 = .osl 2 0 (m - n + 1) → s' 11 = .int ((j : Int) - 1) → R .normal s' [.cells (lm (A ++ (ln (n + 1) (lv W % lv D) ++ Z))) ty_uint32 1, .cells (lm D') ty_uint32 1, .cells (lm (Q.set j (lv W / lv D))) ty_uint32 1]) :
    Bx D0 (rlB 1) s [.cells (lm (A ++ (W ++ Z))) ty_uint32 1, .cells (lm D') ty_uint32 1, .cells (lm Q) ty_uint32 1] R := by
  obtain ⟨f6, f7, f8, f9, f10, f11⟩ := F
  refine wpB_ok ?_
  have hBB : BB = 4294967296 := rfl
  have b3 := getD_limb hWl n
  have b2 := getD_limb hWl (n - 1)
  have b1 := getD_limb hWl (n - 2)
  have a1 := getD_limb hDl (n - 1)
  have a2 := getD_limb hDl (n - 2)
  have eW := lv_top3 hn hW
  have eD := lv_top2 hn hDn
  have s3 := getD_some (l := W) (i := n) (by omega)
  have s2 := getD_some (l := W) (i := n - 1) (by omega)
  have s1 := getD_some (l := W) (i := n - 2) (by omega)
  have t1 := getD_some (l := D) (i := n - 1) (by omega)
  have t2 := getD_some (l := D) (i := n - 2) (by omega)
  rw [← hDD _ (by omega)] at t1 t2
  have ku := lv_take_lt hWl (i := n - 2) (by omega)
  have kd := lv_take_lt hDl (i := n - 2) (by omega)
  generalize W.getD n 0 = w0 at *
  generalize W.getD (n - 1) 0 = w1 at *
  generalize W.getD (n - 2) 0 = w2 at *
  generalize D.getD (n - 1) 0 = d1 at *
  generalize D.getD (n - 2) 0 = d2 at *
  have G : Guess (w0 * BB + w1) w2 (lv (W.take (n - 2))) d1 d2 (lv (D.take (n - 2))) (BB ^ (n - 2)) := ⟨b1, a2, a1, ku, kd, half, by rw [← eW, ← eD]; exact hfit⟩
  have hdig : G.digit = lv W / lv D := by unfold Guess.digit; rw [← eW, ← eD]
  have hDpos : 0 < lv D := by rw [eD]; exact G.dpos
  have hd1 : 0 < d1 := by omega
  obtain ⟨top, htop⟩ : ∃ top, top = w0 * BB + w1 := ⟨_, rfl⟩
  have htl : top < 18446744073709551616 := by rw [htop, hBB]; omega
  have hq0 : top / d1 ≤ 4294967297 := by
    have h1 := G.top_le
    rw [← htop] at h1
    rw [← Nat.lt_add_one_iff, Nat.div_lt_iff_lt_mul hd1]
    have h3 : d1 * BB + BB ≤ 4294967298 * d1 := by rw [hBB] at *; omega
    omega
  have hr0 := Nat.mod_lt top hd1
  have hqr := Nat.mod_add_div top d1
  have hdg0 : G.digit ≤ top / d1 := by rw [htop]; exact G.first hd1
  obtain ⟨q0, hq0e⟩ : ∃ q0, q0 = top / d1 := ⟨_, rfl⟩
  obtain ⟨r0, hr0e⟩ : ∃ r0, r0 = top % d1 := ⟨_, rfl⟩
  rw [← hq0e] at hq0 hqr hdg0
  rw [← hr0e] at hr0 hqr
  have v1 : IntKind.i64.wrap ((n : Int) - 1) = ((n - 1 : Nat) : Int) := by rw [wi (by omega) (by omega)]; omega
  have v2 : IntKind.u64.wrap (w0 : Int) = (w0 : Int) := by rw [w64 (by omega) (by omega)]
  have v3 : IntKind.u64.wrap (w1 : Int) = (w1 : Int) := by rw [w64 (by omega) (by omega)]
  have v4 : IntKind.u64.wrap (d1 : Int) = (d1 : Int) := by rw [w64 (by omega) (by omega)]
  have v5 : IntKind.u64.wrap ((w0 : Int) * 4294967296) = ((w0 * 4294967296 : Nat) : Int) := by rw [w64 (by omega) (by omega)]; omega
  have v6 : bits .or .u64 ((w0 * 4294967296 : Nat) : Int) (w1 : Int) = (top : Int) := by rw [shl_or (by omega) (by omega), htop, hBB]
  have v7 : IntKind.u64.wrap ((top : Int) / (d1 : Int)) = (q0 : Int) := by rw [← Int.natCast_ediv, ← hq0e, w64 (by omega) (by omega)]
  have v8 : (top : Int).tmod (d1 : Int) = (r0 : Int) := by rw [tmodN, ← hr0e]
  have v9 : IntKind.i64.wrap ((j : Int) + (n : Int)) = ((j + n : Nat) : Int) := by rw [wi (by omega) (by omega)]; omega
  have v10 : IntKind.i64.wrap (((j + n : Nat) : Int) - 1) = ((j + n - 1 : Nat) : Int) := by rw [wi (by omega) (by omega)]; omega
  have v11 : IntKind.i64.wrap ((j : Int) - 1) = (j : Int) - 1 := by rw [wi (by omega) (by omega)]
  have i1 : (lm D')[n - 1]? = some (u32 d1) := by simp [lm, t1]
  have i2 := lm_get3 (Z := Z) hA s3
  have i3 := lm_get3 (Z := Z) hA s2
  rw [show j + (n - 1) = j + n - 1 by omega] at i3
  have l1 : n - 1 < n := by omega
  have l2 : j + n - 1 < m + 1 := by omega
  have l2' : ((j + n - 1 : Nat) : Int) < (m : Int) + 1 := by omega
  have l2'' : ((j + n - 1 : Nat) : Int) < ((m + 1 : Nat) : Int) := by omega
  have l3 : j + n < m + 1 := by omega
  have l3' : ((j + n : Nat) : Int) < (m : Int) + 1 := by omega
  have l3'' : ((j + n : Nat) : Int) < ((m + 1 : Nat) : Int) := by omega
  have hd10 : ¬ d1 = 0 := by omega
  have gH : ∀ o, ([.cells (lm (A ++ (o ++ Z))) ty_uint32 1, .cells (lm D') ty_uint32 1, .cells (lm Q) ty_uint32 1] : List O)[0]? = some (.cells (lm (A ++ (o ++ Z))) ty_uint32 1) := fun o => rfl
  have gD : ∀ o, ([.cells (lm (A ++ (o ++ Z))) ty_uint32 1, .cells (lm D') ty_uint32 1, .cells (lm Q) ty_uint32 1] : List O)[1]? = some (.cells (lm D') ty_uint32 1) := fun o => rfl
  have gS : ∀ o o', ([.cells (lm (A ++ (o ++ Z))) ty_uint32 1, .cells (lm D') ty_uint32 1, .cells (lm Q) ty_uint32 1] : List O).set 0 (.cells (lm (A ++ (o' ++ Z))) ty_uint32 1) = [.cells (lm (A ++ (o' ++ Z))) ty_uint32 1, .cells (lm D') ty_uint32 1, .cells (lm Q) ty_uint32 1] := fun o o' => rfl
  simp [rlB, F_ref1_long, B.loops, go_sem, f6, f7, f8, f9, f10, f11, -Int.natCast_add, -Int.natCast_mul, -Int.natCast_ediv, -Int.natCast_emod, v1, v2, v3, v4, v5, v6, v7, v8, v9, v10, i1, i2, i3, l1, l2, l2', l2'', l3, l3', l3'', hd10]
  have g3 : (A ++ (W ++ Z))[j + n - 2]? = some w2 := by
    rw [show j + n - 2 = j + (n - 2) by omega, ← hA, List.getElem?_append_right (by omega), Nat.add_sub_cancel_left, List.getElem?_append_left (by omega)]; exact s1
  refine rguess_loop (m := m) (n := n) (j := j) (nz := nz) (q0 := q0) (r0 := r0) G hn hml hj (gH W) (gD W) t1 t2 g3 ⟨by simp [go_sem, f6], by simp [go_sem, f7], by simp [go_sem, f8], by simp [go_sem, f9], by simp [go_sem, f10], by simp [go_sem, f11]⟩ rfl rfl (by rw [← htop, ← hqr, Nat.mul_comm]; omega) hdg0 hq0 (by omega) fun s' q F p7 hqB hq1 hq2 => ?_
  rw [hdig] at hq1 hq2
  clear f6 f7 f8 f9 f10 f11
  obtain ⟨f6, f7, f8, f9, f10, f11⟩ := F
  simp [go_sem, p7]
  refine rmsub_loop (m := m) (n := n) (j := j) (nz := nz) (q := q) gH gD gS hDD hA hW hDn hWl hDl hqB hml hj ⟨by simp [go_sem, f6], by simp [go_sem, f7], by simp [go_sem, f8], by simp [go_sem, f9], by simp [go_sem, f10], by simp [go_sem, f11]⟩ (by simp [go_sem, p7]) (by simp [go_sem]) (by simp [go_sem]) (by simp [go_sem])
    fun s'' o c b F r13 r15 r16 hol ho hon hc hb hinv => ?_
  clear p7 f6 f7 f8 f9 f10 f11
  obtain ⟨f6, f7, f8, f9, f10, f11⟩ := F
  rw [s3] at hon
  have j1 := lm_get3 (Z := Z) hA hon
  -- the last digit
  have x1 : IntKind.u64.wrap ((c : Int) + (b : Int)) = ((c + b : Nat) : Int) := by rw [w64 (by omega) (by omega)]; omega
  obtain ⟨d, b', e1, e2, hb', x2, hlt0⟩ : ∃ d b', d + c + b = w0 + b' * BB ∧ d < BB ∧ b' ≤ 1 ∧ IntKind.u32.wrap (IntKind.u64.wrap ((w0 : Int) - ((c + b : Nat) : Int))) = (d : Int) ∧ (b' = 1 ↔ w0 < c + b) := by
    by_cases h : w0 < c + b
    · refine ⟨w0 + BB - (c + b), 1, by omega, by omega, Nat.le_refl _, ?_, by simp [h]⟩
      rw [w64m, w32m]; omega
    · refine ⟨w0 - (c + b), 0, by omega, by omega, by omega, ?_, by simp [h]⟩
      rw [w64m, w32m]; omega
  have j2 := lm_set3 (A := A) (o := o) (Z := Z) (k := n) (d := d) hA (by omega)
  -- the whole
  have hW' : lv W = lv (W.take n) + BB ^ n * w0 := by
    have := lv_take_succ (l := W) (i := n) (by omega)
    rw [List.take_of_length_le (by omega)] at this
    rw [this]
    congr 2
    rw [List.getElem?_eq_getElem (by omega)] at s3
    exact Option.some.inj s3
  have ho1 := limbs_set ho (i := n) e2
  have hol1 : (o.set n d).length = n + 1 := by simp [hol]
  have hlo : lv (o.set n d) = lv (o.take n) + BB ^ n * d := by
    have := lv_take_set (l := o) (i := n) (x := d) (by omega)
    rwa [List.take_of_length_le (by simp; omega)] at this
  have hsum : lv (o.set n d) + q * lv D = lv W + b' * BB ^ (n + 1) := by
    have h1 := congrArg (BB ^ n * ·) e1
    simp only [Nat.mul_add] at h1
    have h2 : BB ^ n * (b' * BB) = b' * BB ^ (n + 1) := by rw [Nat.pow_succ]; grind
    have h3 : (b + c) * BB ^ n = BB ^ n * b + BB ^ n * c := by grind
    rw [hlo, hW']; omega
  have hlt := lv_lt ho1
  rw [hol1] at hlt
  obtain ⟨k1, k2⟩ := step_end rfl hDpos hq1 hq2 hlt hb' hsum
  have l4 : j + n < (A ++ (o ++ Z)).length := by simp; omega
  have hdq : lv W / lv D < BB := Nat.div_lt_of_lt_mul hfit
  have fin : ∀ (U : List Nat) (w : Nat → V), w 6 = .int (n : Int) → w 7 = u64 nz → w 8 = .osl 0 0 (m + 1) → w 9 = .osl 1 0 n → w 10 = .osl 2 0 (m - n + 1) → w 11 = .int ((j : Int) - 1) → U = ln (n + 1) (lv W % lv D) →
      R .normal w [.cells (lm (A ++ (U ++ Z))) ty_uint32 1, .cells (lm D') ty_uint32 1, .cells ((lm Q).take j ++ u32 (lv W / lv D) :: (lm Q).drop (j + 1)) ty_uint32 1] := fun U w q6 q7 q8 q9 q10 q11 hU => by
    have := hR w q6 q7 q8 q9 q10 q11
    rw [hU]
    rw [← lm_set, ← set_eq _ _ (by simp [lm_len]; omega)] at this
    simpa using this
  have lq : (j : Int) < ((m - n + 1 : Nat) : Int) := by omega
  have lq' : (j : Int) < ((m - n : Nat) : Int) + 1 := by omega
  have lq2 : j < m - n + 1 := by omega
  by_cases hz : b' = 0
  · obtain ⟨rfl, hr⟩ := k1 hz
    have hnlt : ¬ w0 < c + b := fun h => by have := hlt0.2 h; omega
    have hnlt' : ¬ (w0 : Int) < ((c + b : Nat) : Int) := by omega
    have hq32 : IntKind.u32.wrap ((lv W / lv D : Nat) : Int) = ((lv W / lv D : Nat) : Int) := by
      generalize lv W / lv D = z at hqB
      rw [w32 (by omega) (by omega)]
    simp [go_sem, f6, f7, f8, f9, f10, f11, r13, r15, r16, x1, x2, j1, j2, -Int.natCast_add, -Int.natCast_ediv, hq32, v2, v9, v11, l3, l3', l3'', lq, lq', lq2, hnlt']
    exact ⟨by simp [lm_len]; omega, by simp [lm_len]; omega, fin _ _ (by simp [go_sem, f6]) (by simp [go_sem, f7]) (by simp [go_sem, f8]) (by simp [go_sem, f9]) (by simp [go_sem, f10]) (by simp [go_sem]) (lv_uniq ho1 hol1 hr)⟩
  · obtain ⟨hqe, hback⟩ := k2 hz
    have hb1 : b' = 1 := by omega
    have hlt1 : w0 < c + b := hlt0.1 hb1
    have hlt1' : (w0 : Int) < ((c + b : Nat) : Int) := by omega
    subst hb1
    have x5 : IntKind.u64.wrap ((q : Int) - 1) = ((lv W / lv D : Nat) : Int) := by
      rw [hqe]
      generalize lv W / lv D = y at hqe
      rw [w64 (by omega) (by omega)]; omega
    simp [go_sem, f6, f7, f8, f9, f10, f11, r13, r15, r16, x1, x2, x5, j1, j2, -Int.natCast_add, -Int.natCast_ediv, v2, v9, v11, l3, l3', l3'', hlt1']
    refine ⟨by simp [lm_len]; omega, ?_⟩
    refine rback_loop (m := m) (n := n) (j := j) (nz := nz) (q := lv W / lv D) gH gD gS hDD hA hol1 hDn ho1 hDl hml hj ⟨by simp [go_sem, f6], by simp [go_sem, f7], by simp [go_sem, f8], by simp [go_sem, f9], by simp [go_sem, f10], by simp [go_sem, f11]⟩ (by simp [go_sem]) (by simp [go_sem]) (by simp [go_sem])
      fun s3' o3 c3 F z13 z15 hol3 ho3 hon3 hc3 hinv3 => ?_
    clear f6 f7 f8 f9 f10 f11 r13 r15 r16
    obtain ⟨f6, f7, f8, f9, f10, f11⟩ := F
    have hon3' : o3[n]? = some d := by rw [hon3, List.getElem?_set_self (by omega)]
    have j3 := lm_get3 (Z := Z) hA hon3'
    obtain ⟨g1, g2, g4⟩ := add_digit (x := d) (y := c3) (c := 0) e2 (by omega) (by omega)
    rw [Nat.add_zero] at g1 g2 g4
    have x3 : IntKind.u32.wrap (c3 : Int) = (c3 : Int) := by rw [w32 (by omega) (by omega)]
    have x6 : IntKind.u32.wrap ((d : Int) + (c3 : Int)) = (((d + c3) % 4294967296 : Nat) : Int) := by rw [w32m]; omega
    generalize (d + c3) % 4294967296 = e at g1 g2 x6
    generalize (d + c3) / 4294967296 = z at g1 g4
    have j4 := lm_set3 (A := A) (o := o3) (Z := Z) (k := n) (d := e) hA (by omega)
    have ho4 := limbs_set ho3 (i := n) g2
    have hol4 : (o3.set n e).length = n + 1 := by simp [hol3]
    have hlt4 := lv_lt ho4
    rw [hol4] at hlt4
    have hlo4 : lv (o3.set n e) = lv (o3.take n) + BB ^ n * e := by
      have := lv_take_set (l := o3) (i := n) (x := e) (by omega)
      rwa [List.take_of_length_le (by simp; omega)] at this
    have htk : lv ((o.set n d).take n) = lv (o.take n) := by rw [take_set_ge]
    have hr4 : lv (o3.set n e) = lv W % lv D := by
      have h1 := congrArg (BB ^ n * ·) g1
      simp only [Nat.mul_add] at h1
      have h2 : BB ^ n * (z * BB) = z * BB ^ (n + 1) := by rw [Nat.pow_succ]; grind
      have h3 : c3 * BB ^ n = BB ^ n * c3 := Nat.mul_comm _ _
      have h4 := Nat.mod_lt (lv W) hDpos
      have h5 : lv (o3.set n e) + z * BB ^ (n + 1) = BB ^ (n + 1) + lv W % lv D := by rw [htk] at hinv3; omega
      have hzz : z = 0 ∨ z = 1 := by omega
      rcases hzz with rfl | rfl <;> omega
    have x4 : IntKind.u32.wrap ((lv W / lv D : Nat) : Int) = ((lv W / lv D : Nat) : Int) := by
      generalize lv W / lv D = y at hdq
      rw [w32 (by omega) (by omega)]
    simp [go_sem, f6, f7, f8, f9, f10, f11, z13, z15, x3, x6, j3, j4, -Int.natCast_add, -Int.natCast_ediv, x4, v9, v11, l3, l3', l3'', lq, lq', lq2]
    exact ⟨by simp [lm_len]; omega, by simp [lm_len]; omega, fin _ _ (by simp [go_sem, f6]) (by simp [go_sem, f7]) (by simp [go_sem, f8]) (by simp [go_sem, f9]) (by simp [go_sem, f10]) (by simp [go_sem]) (lv_uniq ho4 hol4 hr4)⟩
end Go.Proofs.Vm
/-! The package insolvencyref1: long. -/
namespace Go.Proofs.Vm
open Go Go.Proofs.Na

def rsI (y : Nat) (n t x : Nat) (k : Nat) (s : Nat → V) (X : List O) : Prop :=
  ∃ c : Nat, k = 31 - c ∧ X = [] ∧ s 0 = LV (lb x) ∧ s 1 = LV (lb y) ∧ s 6 = .int (n : Int) ∧ s 7 = u64 c ∧ c ≤ 31 ∧ t * 2 ^ c < 4294967296
def rdI (D' : List Nat) (X0 L n m nz : Nat) (k : Nat) (s : Nat → V) (Y : List O) : Prop :=
  ∃ U Q, k ≤ m - n + 1 ∧ Y = [.cells (lm U) ty_uint32 1, .cells (lm D') ty_uint32 1, .cells (lm Q) ty_uint32 1] ∧ s 6 = .int (n : Int) ∧ s 7 = u64 nz ∧ s 8 = .osl 0 0 (m + 1) ∧ s 9 = .osl 1 0 n ∧ s 10 = .osl 2 0 (m - n + 1) ∧ s 11 = .int ((k : Int) - 1) ∧
    U.length = m + 1 ∧ Limbs U ∧ Q.length = m - n + 1 ∧ Limbs Q ∧ lv (U.drop k) < L ∧ (∀ j, j < k → Q[j]? = some 0) ∧ lv Q * L + lv U = X0
def ruI (U D' Q : List Nat) (n m nz : Nat) (k : Nat) (s : Nat → V) (Y : List O) : Prop :=
  ∃ i o, k = n - i ∧ i ≤ n ∧ Y = [.cells (lm U) ty_uint32 1, .cells (lm D') ty_uint32 1, .cells (lm Q) ty_uint32 1, .cells (lm o) ty_uint32 1] ∧ s 6 = .int (n : Int) ∧ s 7 = u64 nz ∧ s 8 = .osl 0 0 (m + 1) ∧ s 10 = .osl 2 0 (m - n + 1) ∧ s 24 = .osl 3 0 n ∧ s 25 = .int (i : Int) ∧
    o.length = n ∧ Limbs o ∧ ∀ j, j < i → o[j]? = (ln n (lv U / 2 ^ nz))[j]?
theorem r_long {x y : Nat} (hxy : y ≤ x) (hy2 : 2 ≤ (lb y).length) (hx : (lb x).length ≤ 67108864) {H : List O} (K : V → List O → Prop) :
    Fx D0 fn_ref1_long [LV (lb x), LV (lb y)] H K = K (.tup [LV (lb (x / y)), LV (lb (x % y))]) H := by
  refine Fx_is ?_ K
  have has : [LV (lb x), LV (lb y)].mapM (frz H depth) = some [LV (lb x), LV (lb y)] := rfl
  refine Fx_ofp d_ref1_long has ?_
  have hlx := len_s (LV_SL (H := []) (lb x))
  have hly := len_s (LV_SL (H := []) (lb y))
  have hbx := lb_limbs x
  have hby := lb_limbs y
  have hnm : (lb y).length ≤ (lb x).length := lb_len.2 (Nat.lt_of_le_of_lt hxy (lb_len.1 (Nat.le_refl _)))
  obtain ⟨n, hn⟩ : ∃ n, n = (lb y).length := ⟨_, rfl⟩
  obtain ⟨m, hm⟩ : ∃ m, m = (lb x).length := ⟨_, rfl⟩
  rw [← hn] at hly hnm hy2
  rw [← hm] at hlx hnm hx
  have htl := getD_limb hby (n - 1)
  have ht1 : 1 ≤ (lb y).getD (n - 1) 0 := by
    rw [getD_at (by omega)]
    have := lb_tidy y (by omega)
    simp only [← hn] at this; omega
  have hBB : BB = 4294967296 := rfl
  have v1 : IntKind.i64.wrap ((n : Int) - 1) = ((n - 1 : Nat) : Int) := by rw [wi (by omega) (by omega)]; omega
  have w1 := fun K X => ia_s (K := K) (q := .i64) (n := ((n - 1 : Nat) : Int)) (LV_SL (H := X) (lb y)) (by omega) (by omega)
  have w2 := fun K X => ld_s (K := K) (i := n - 1) (k := 0) (LV_SL (H := X) (lb y)) (by simp [lm_len]; omega)
  simp [lm_get] at w1 w2
  rw [← getD_at (by omega)] at w2
  have nd := fun {nz : Nat} => norm_div (y := y) (by_ := nz) hn.symm (by omega)
  generalize (lb y).getD (n - 1) 0 = t at *
  simp [go_sem, F_ref1_long, hly]
  refine Bx_rounds (rsI y n t x) ?_ 31 _ _ ⟨0, rfl, rfl, rfl, rfl, rfl, rfl, by omega, by omega⟩
  rintro k s X ⟨nz, rfl, rfl, h0, h1, h6, h7, hc, hcl⟩
  refine wpB_ok ?_
  have v2 : IntKind.u32.wrap ((t : Int) * 2 ^ min nz 32) = ((t * 2 ^ nz : Nat) : Int) := by
    rw [Nat.min_eq_left (by omega), show (2 : Int) ^ nz = ((2 ^ nz : Nat) : Int) by push_cast; rfl, ← Int.natCast_mul]
    generalize t * 2 ^ nz = z at *
    rw [w32 (by omega) (by omega)]
  by_cases hlt : t * 2 ^ nz < 2147483648
  · have hlt' : ((t * 2 ^ nz : Nat) : Int) < 2147483648 := by
      generalize t * 2 ^ nz = z at *
      omega
    have hc30 : nz < 31 := by
      rcases Nat.lt_or_ge nz 31 with h | h
      · exact h
      · have : nz = 31 := by omega
        subst this
        have := Nat.mul_le_mul_right (2 ^ 31) ht1
        omega
    have v3 : IntKind.u64.wrap ((nz : Int) + 1) = ((nz + 1 : Nat) : Int) := by rw [w64 (by omega) (by omega)]; omega
    simp [go_sem, h0, h1, h6, h7, -Int.natCast_add, -Int.natCast_mul, -Int.natCast_pow, v1, w1, w2, v2, v3, hlt']
    exact ⟨31 - (nz + 1), by omega, nz + 1, rfl, rfl, by simp [go_sem, h0], by simp [go_sem, h1], by simp [go_sem, h6], by simp [go_sem], by omega, by rw [Nat.pow_succ, ← Nat.mul_assoc]; omega⟩
  · have hlt' : ¬ ((t * 2 ^ nz : Nat) : Int) < 2147483648 := by
      generalize t * 2 ^ nz = z at *
      omega
    obtain ⟨f1, f2, f3, f4⟩ := nd hc (by omega) hcl
    have hxm : x < BB ^ m := lb_len.1 (Nat.le_of_eq hm.symm)
    have hP0 : 0 < 2 ^ nz := Nat.pow_pos (by omega)
    have g1 := fit_more hbx hc
    rw [lv_lb, ← hm] at g1
    have p5 := fun K => r_shifted (K := K) (H := []) (by_ := nz) (LV_SL (lb x)) hbx hc (by omega)
    rw [lv_lb, ← hm] at p5
    have p6 := fun K X => r_shifted (K := K) (H := X) (by_ := nz) (LV_SL (H := X) (lb y)) hby hc (by omega)
    rw [lv_lb, ← hn] at p6
    have hDl := ln_limbs n (y * 2 ^ nz)
    have hDn := ln_len n (y * 2 ^ nz)
    have hDl' := ln_limbs (n + 1) (y * 2 ^ nz)
    have hDn' := ln_len (n + 1) (y * 2 ^ nz)
    have hDD : ∀ i, i < n → (ln (n + 1) (y * 2 ^ nz))[i]? = (ln n (y * 2 ^ nz))[i]? := fun i hi => by
      rw [List.getElem?_eq_getElem (by omega), List.getElem?_eq_getElem (by omega), ln_get, ln_get]
    generalize hDe : ln n (y * 2 ^ nz) = D at *
    generalize ln (n + 1) (y * 2 ^ nz) = D' at *
    have hUl := ln_limbs (m + 1) (x * 2 ^ nz)
    have hUn := ln_len (m + 1) (x * 2 ^ nz)
    have hUv : lv (ln (m + 1) (x * 2 ^ nz)) = x * 2 ^ nz := by rw [lv_ln, Nat.mod_eq_of_lt (by omega)]
    generalize hUe : ln (m + 1) (x * 2 ^ nz) = U0 at *
    have v4 : IntKind.i64.wrap ((m : Int) - (n : Int)) = ((m - n : Nat) : Int) := by rw [wi (by omega) (by omega)]; omega
    have v5 : IntKind.i64.wrap (((m - n : Nat) : Int) + 1) = ((m - n + 1 : Nat) : Int) := by rw [wi (by omega) (by omega)]; omega
    have v6 : ((m - n + 1 : Nat) : Int) * 4 ≤ 140737488355328 := by omega
    have v7 : (0 : Int) ≤ ((m - n + 1 : Nat) : Int) := by omega
    have v8 : ((m - n : Nat) : Int) = ((m - n + 1 : Nat) : Int) - 1 := by omega
    have hs9 := own_SL (H := [.cells (lm U0) ty_uint32 1, .cells (lm D') ty_uint32 1]) (h := 1) (o := D') (t := ty_uint32) rfl (Nat.le_refl _)
    rw [List.take_length, hDn'] at hs9
    have i9 := fun K => take_s (K := K) (q := .i64) (n := (n : Int)) hs9 (by omega)
    simp only [takeV, Int.toNat_natCast] at i9
    simp [go_sem, h0, h1, h6, h7, hlx, -Int.natCast_add, -Int.natCast_mul, -Int.natCast_pow, v1, w1, w2, v2, hlt', p5, p6, v4, v5, v6, v7, i9, lm_rep]
    rw [rep32]
    have hpw : BB ^ (m + 1) = BB ^ (m - n + 1) * BB ^ n := by rw [← Nat.pow_add, show m - n + 1 + n = m + 1 by omega]
    have hDpos : 0 < lv D := by
      have := Nat.pow_pos (n := n) BB_pos
      rw [f2]; omega
    have hstart : lv (U0.drop (m - n + 1)) < lv D := by
      have h1 := lv_split U0 (m - n + 1) (by omega)
      rcases Nat.lt_or_ge (lv (U0.drop (m - n + 1))) (lv D) with h | h
      · exact h
      · exfalso
        have h2 := Nat.mul_le_mul_left (BB ^ (m - n + 1)) h
        have h3 := Nat.mul_le_mul_left (BB ^ (m - n + 1)) f4
        rw [← hpw] at h3
        have h4 : BB ^ (m - n + 1) * (2 * (y * 2 ^ nz)) = 2 * (BB ^ (m - n + 1) * lv D) := by rw [f2]; grind
        omega
    refine Bx_rounds (rdI D' (x * 2 ^ nz) (lv D) n m nz) ?_ (m - n + 1) _ _
      ⟨U0, List.replicate (m - n + 1) 0, Nat.le_refl _, rfl, by simp [go_sem, h6], by simp [go_sem, h7], by simp [go_sem], by simp [go_sem], by simp [go_sem], by simp [go_sem], hUn, hUl, by simp, limbs_zeros _, hstart, fun j hj => by simp [hj], by rw [lv_zeros, hUv]; omega⟩
    clear w1 w2 p5 p6 i9 hs9 h0 h1 h6 h7 nd
    clear s
    rintro k s Y ⟨U, Q, hk, rfl, h6, h7, h8, h9, h10, h11, hUlen, hUl', hQlen, hQl, htop, hQ0, hinv⟩
    cases k with
    | zero =>
      refine wpB_ok ?_
      rw [List.drop_zero] at htop
      have hlU : lv U < BB ^ n := by rw [f2] at htop; omega
      have q1 : lv Q = x / y ∧ lv U = x % y * 2 ^ nz := by
        have h1 : x * 2 ^ nz / lv D = lv Q := by
          rw [← hinv, Nat.mul_comm, Nat.mul_add_div hDpos, Nat.div_eq_of_lt htop]; omega
        have h2 : x * 2 ^ nz % lv D = lv U := by
          rw [← hinv, Nat.mul_comm, Nat.mul_add_mod, Nat.mod_eq_of_lt htop]
        rw [f2, Nat.mul_div_mul_right _ _ hP0] at h1
        rw [f2, Nat.mul_mod_mul_right] at h2
        exact ⟨h1.symm, h2.symm⟩
      have e4 : (n : Int) * 4 ≤ 140737488355328 := by omega
      simp [go_sem, h6, h7, h8, h9, h10, h11, e4]
      refine Bx_rounds (ruI U D' Q n m nz) ?_ n _ _ ⟨0, List.replicate n 0, by omega, by omega, by simp [lm], by simp [go_sem, h6], by simp [go_sem, h7], by simp [go_sem, h8], by simp [go_sem, h10], by simp [go_sem], by simp [go_sem], by simp, limbs_zeros _, fun j hj => by omega⟩
      clear h6 h7 h8 h9 h10 h11
      clear s
      rintro k s Y ⟨i, o, rfl, hi, rfl, h6, h7, h8, h10, h24, h25, hol, ho, hinv2⟩
      refine wpB_ok ?_
      by_cases hlt2 : i < n
      · have hdig := unshift_digit hUl' (i := i) (by_ := nz) (by omega) hc
        have hi1 : i < U.length := by omega
        have hi2 : i + 1 < U.length := by omega
        have l1 := lm_at hi1
        have l2 := lm_at hi2
        rw [getD_at hi2] at hdig
        have hu := hUl' _ (List.getElem_mem hi1)
        have hw := hUl' _ (List.getElem_mem hi2)
        have hget : (ln n (lv U / 2 ^ nz))[i]? = some ((U[i] + BB * U[i + 1]) / 2 ^ nz % BB) := by rw [List.getElem?_eq_getElem (by rw [ln_len]; exact hlt2), ln_get, hdig]
        clear hdig
        generalize U[i] = u at *
        generalize U[i + 1] = w at *
        have w0 : IntKind.i64.wrap ((i : Int) + 1) = ((i + 1 : Nat) : Int) := by rw [wi (by omega) (by omega)]; omega
        have w1 : IntKind.u64.wrap (u : Int) = (u : Int) := by rw [w64 (by omega) (by omega)]
        have w2 : IntKind.u64.wrap (w : Int) = (w : Int) := by rw [w64 (by omega) (by omega)]
        have w3 : IntKind.u64.wrap ((w : Int) * 4294967296) = ((w * 4294967296 : Nat) : Int) := by rw [w64 (by omega) (by omega)]; omega
        have w5 := shl_or (r := w) (a := u) (by omega) (by omega)
        have hbyP : (2 : Int) ^ min nz 64 = ((2 ^ nz : Nat) : Int) := by rw [Nat.min_eq_left (by omega)]; push_cast; rfl
        have w6 : IntKind.u32.wrap (((w * 4294967296 + u : Nat) : Int).fdiv (2 ^ min nz 64)) = (((u + BB * w) / 2 ^ nz % BB : Nat) : Int) := by
          rw [hbyP, fdivN, w32m, ← Int.natCast_ediv, show w * 4294967296 + u = u + BB * w by rw [hBB]; omega]; generalize (u + BB * w) / 2 ^ nz = z; rw [hBB]; omega
        have hdB : (u + BB * w) / 2 ^ nz % BB < BB := Nat.mod_lt _ BB_pos
        generalize (u + BB * w) / 2 ^ nz % BB = d at *
        simp [go_sem, h6, h7, h8, h10, h24, h25, hlt2, -Int.natCast_add, -Int.natCast_ediv, -Int.natCast_emod, -Int.natCast_mul, w0, w1, w2, w3, w5, w6, l1, l2]
        refine ⟨by omega, by omega, by simp [lm_len]; omega, n - (i + 1), by omega, i + 1, o.set i d, rfl, by omega, ?_, by simp [go_sem, h6], by simp [go_sem, h7], by simp [go_sem, h8], by simp [go_sem, h10], by simp [go_sem, h24], by simp [go_sem], by simp [hol], limbs_set ho hdB, fun j hj => ?_⟩
        · rw [← lm_set, ← set_eq _ _ (by simp [lm_len]; omega)]; simp
        · rw [List.getElem?_set]
          by_cases hij : i = j
          · subst hij; rw [if_pos rfl, if_pos (by omega), hget]
          · rw [if_neg hij]; exact hinv2 j (by omega)
      · have hi' : i = n := by omega
        rw [hi'] at h25 hinv2
        have hoe : o = ln n (lv U / 2 ^ nz) := by
          apply List.ext_getElem?
          intro j
          by_cases hj : j < n
          · exact hinv2 j hj
          · rw [List.getElem?_eq_none (by omega), List.getElem?_eq_none (by rw [ln_len]; omega)]
        have hlo : lv o = x % y := by
          have h1 : x % y ≤ x % y * 2 ^ nz := Nat.le_mul_of_pos_right _ hP0
          rw [hoe, lv_ln, q1.2, Nat.mul_div_cancel _ hP0, Nat.mod_eq_of_lt (by omega)]
        have hs2 := own_SL (H := [.cells (lm U) ty_uint32 1, .cells (lm D') ty_uint32 1, .cells (lm Q) ty_uint32 1, .cells (lm o) ty_uint32 1]) (h := 2) (o := Q) (t := ty_uint32) rfl (Nat.le_refl _)
        have hs3 := own_SL (H := [.cells (lm U) ty_uint32 1, .cells (lm D') ty_uint32 1, .cells (lm Q) ty_uint32 1, .cells (lm o) ty_uint32 1]) (h := 3) (o := o) (t := ty_uint32) rfl (Nat.le_refl _)
        rw [List.take_length, hQlen] at hs2
        rw [List.take_length, hol] at hs3
        have p8 := fun K => r_strip (K := K) hs2 (by omega)
        have p9 := fun K => r_strip (K := K) hs3 (by omega)
        have hout2 := out1_lm (H := [.cells (lm U) ty_uint32 1, .cells (lm D') ty_uint32 1, .cells (lm Q) ty_uint32 1, .cells (lm o) ty_uint32 1]) (h := 2) (o := Q) (t := ty_uint32) rfl (trimN_le Q)
        have hout3 := out1_lm (H := [.cells (lm U) ty_uint32 1, .cells (lm D') ty_uint32 1, .cells (lm Q) ty_uint32 1, .cells (lm o) ty_uint32 1]) (h := 3) (o := o) (t := ty_uint32) rfl (trimN_le o)
        rw [take_trim hQl, q1.1] at hout2
        rw [take_trim ho, hlo] at hout3
        simp only [takeV] at p8 p9
        simp [go_sem, h6, h7, h8, h10, h24, h25, p8, p9, hout2, hout3]
    | succ k =>
      have hkk : k < m - n + 1 := by omega
      have hDBn : lv D < BB ^ n := by rw [f2]; exact f1
      obtain ⟨d1, d2⟩ := div_digit hUlen hUl' hQl (show k + n ≤ m by omega) (by omega) hDpos hDBn htop (hQ0 k (by omega)) hinv
      have hUeq : U.take k ++ ((U.drop k).take (n + 1) ++ U.drop (k + n + 1)) = U := by
        have : U.drop (k + n + 1) = (U.drop k).drop (n + 1) := by rw [List.drop_drop]; rfl
        rw [this, List.take_append_drop, List.take_append_drop]
      obtain ⟨W, hWe⟩ : ∃ W, W = (U.drop k).take (n + 1) := ⟨_, rfl⟩
      rw [← hWe] at d1 d2 hUeq
      have hWl : Limbs W := fun z hz => hUl' z (List.mem_of_mem_drop (List.mem_of_mem_take (hWe ▸ hz)))
      have hWn : W.length = n + 1 := by rw [hWe]; simp; omega
      obtain ⟨U', hU'⟩ : ∃ U', U' = U.take k ++ (ln (n + 1) (lv W % lv D) ++ U.drop (k + n + 1)) := ⟨_, rfl⟩
      obtain ⟨d3, d4⟩ := d2 U' hU'
      have hdq : lv W / lv D < BB := Nat.div_lt_of_lt_mul d1
      have hU'l : Limbs U' := fun z hz => by
        rw [hU'] at hz
        rcases List.mem_append.1 hz with h | h
        · exact hUl' z (List.mem_of_mem_take h)
        · rcases List.mem_append.1 h with h | h
          · exact ln_limbs _ _ z h
          · exact hUl' z (List.mem_of_mem_drop h)
      have hU'n : U'.length = m + 1 := by rw [hU']; simp [ln_len]; omega
      rw [← hUeq]
      refine rround (n := n) (m := m) (j := k) (nz := nz) hDD (by simp; omega) hWn (by omega) hQlen hDn hWl hDl hy2 (by omega) (by omega) f3 d1 ⟨h6, h7, h8, h9, h10, by rw [h11]; congr 3; omega⟩ ?_
      intro s' g6 g7 g8 g9 g10 g11
      exact ⟨k, by omega, U', Q.set k (lv W / lv D), by omega, by rw [hU'], g6, g7, g8, g9, g10, g11, hU'n, hU'l, by simp [hQlen], limbs_set hQl hdq, d3, fun j hj => by rw [List.getElem?_set, if_neg (by omega)]; exact hQ0 j (by omega), d4⟩
end Go.Proofs.Vm
/-! The package insolvencyref1: divide, common, GCD, Valid, Fix, Signum, Sign. -/
namespace Go.Proofs.Vm
open Go Go.Proofs.Na

theorem r_divide {x y : Nat} (hy0 : y ≠ 0) (hx : (lb x).length ≤ 67108864) (hy : (lb y).length ≤ 67108864) {H : List O} (K : V → List O → Prop) :
    Fx D0 fn_ref1_divide [LV (lb x), LV (lb y)] H K = K (.tup [if x < y then .nils else LV (lb (x / y)), LV (lb (x % y))]) H := by
  refine Fx_is ?_ K
  have has : [LV (lb x), LV (lb y)].mapM (frz H depth) = some [LV (lb x), LV (lb y)] := rfl
  refine Fx_ofp d_ref1_divide has ?_
  have hly := len_s (LV_SL (H := []) (lb y))
  have p1 := fun K X => r_order (K := K) (H := X) (LV_SL (H := X) (lb x)) (LV_SL (lb y)) (by omega) (by omega)
  have o1 : ∀ (H : List O) l, out H 11 (LV l) = some (LV l) := fun H l => out1_fsl
  by_cases hlt : x < y
  · have hs : sg x y < 0 := by unfold sg; rw [if_pos hlt]; omega
    simp [go_sem, F_ref1_divide, p1, hs, hlt, o1, Nat.mod_eq_of_lt hlt]
  · have hs : ¬ sg x y < 0 := by unfold sg; rw [if_neg hlt]; split <;> omega
    have hnm : (lb y).length ≤ (lb x).length := lb_len.2 (Nat.lt_of_le_of_lt (Nat.not_lt.1 hlt) (lb_len.1 (Nat.le_refl _)))
    have hn1 : 1 ≤ (lb y).length := by
      rw [lb_pos hy0]; simp
    have hbx := lb_limbs x
    have hby := lb_limbs y
    by_cases hone : (lb y).length = 1
    · have e : lb y = [y] := by
        have h1 := lv_lb y
        match hq : lb y, hone with
        | [z], _ =>
          rw [hq] at h1
          simp [lv] at h1
          rw [h1]
      have hyB : y < BB := by have := hby y (by rw [e]; simp); exact this
      have w1 := fun K X => ia_s (K := K) (q := .i64) (n := 0) (LV_SL (H := X) (lb y)) (by omega) (by omega)
      have w2 := fun K X => ld_s (K := K) (i := 0) (k := 0) (LV_SL (H := X) (lb y)) (by simp [lm_len]; omega)
      have e2 : (lm (lb y))[0]? = some (u32 y) := by rw [e]; rfl
      have p2 := fun K X => r_short (K := K) (H := X) (d := y) (LV_SL (H := X) (lb x)) hbx (by omega) hyB (by omega)
      rw [lv_lb] at p2
      have hr := Nat.mod_lt x (show 0 < y by omega)
      have hrl : Limbs [x % y] := fun z hz => by simp at hz; omega
      have hs2 := own_SL (H := [.cells (lm [x % y]) ty_uint32 1]) (h := 0) (o := [x % y]) (t := ty_uint32) rfl (Nat.le_refl _)
      rw [List.take_length] at hs2
      have p3 := fun K => r_strip (K := K) hs2 (by simp)
      have hout := out1_lm (H := [.cells (lm [x % y]) ty_uint32 1]) (h := 0) (o := [x % y]) (t := ty_uint32) rfl (trimN_le _)
      rw [take_trim hrl, show lv [x % y] = x % y by simp [lv]] at hout
      simp [lm] at p3 hout
      simp [lm_get, e] at w1 w2
      simp [e] at p2 p1
      have hly1 : lenV (LV [y]) = some 1 := rfl
      simp [go_sem, F_ref1_divide, p1, hs, hlt, hly1, e, w1, w2, p2, -Int.natCast_emod]
      refine (p3 _).2 ?_
      simp [go_sem, takeV, hout, o1]
    · have hone' : (((lb y).length : Int) == 1) = false := by simp; omega
      have p4 := fun K X => r_long (K := K) (H := X) (show y ≤ x by omega) (by omega) hx
      simp [go_sem, F_ref1_divide, p1, hs, hlt, hly, hone', p4, o1]

def cmI (g k : Nat) (y : Nat) (s : Nat → V) (X : List O) : Prop :=
  ∃ x, X = [] ∧ s 0 = LV (lb x) ∧ s 1 = LV (lb y) ∧ (lb x).length ≤ k ∧ (lb y).length ≤ k ∧ Nat.gcd x y = g
theorem r_common {x y : Nat} (hx : (lb x).length ≤ 67108864) (hy : (lb y).length ≤ 67108864) {H : List O} (K : V → List O → Prop) :
    Fx D0 fn_ref1_common [LV (lb x), LV (lb y)] H K = K (LV (lb (Nat.gcd x y))) H := by
  refine Fx_is ?_ K
  have has : [LV (lb x), LV (lb y)].mapM (frz H depth) = some [LV (lb x), LV (lb y)] := rfl
  refine Fx_ofp d_ref1_common has ?_
  have o1 : ∀ (H : List O) l, out H depth (LV l) = some (LV l) := fun H l => out_fsl
  simp [go_sem, F_ref1_common]
  refine Bx_rounds (cmI (Nat.gcd x y) 67108864) ?_ y _ _ ⟨x, rfl, rfl, rfl, hx, hy, rfl⟩
  clear hx hy
  rintro y' s X ⟨x', rfl, h0, h1, hx, hy, hg⟩
  refine wpB_ok ?_
  have hly := len_s (LV_SL (H := []) (lb y'))
  by_cases hy0 : y' = 0
  · subst hy0
    have hl0 : lenV (LV (lb 0)) = some 0 := rfl
    rw [Nat.gcd_zero_right] at hg
    subst hg
    simp [go_sem, h0, h1, hl0, o1]
  · have hpos : 0 < (lb y').length := by rw [lb_pos hy0]; simp
    have p4 := fun K => r_divide (K := K) (H := []) hy0 (x := x') (by omega) (by omega)
    simp [go_sem, h0, h1, hly, hpos, p4]
    have hlt := Nat.mod_lt x' (show 0 < y' by omega)
    refine ⟨x' % y', hlt, y', rfl, by simp [go_sem], by simp [go_sem], hy, lb_mono (Nat.le_of_lt hlt) hy, ?_⟩
    rw [← hg, Nat.gcd_comm x' y', Nat.gcd_rec y' x', Nat.gcd_comm]

theorem r_GCD {a b : List UInt8} (ha : a.length ≤ 16777216) (hb : b.length ≤ 16777216) {H : List O} (K : V → List O → Prop) :
    Fx D0 fn_ref1_GCD [st a, st b] H K = K (st (nbl (Nat.gcd (nv a) (nv b)))) H := by
  have sa := lb_size ha
  have sb := lb_size hb
  refine Fx_is ?_ K
  refine Fx_ofp d_ref1_GCD rfl ?_
  have p1 := fun K X => r_limbs (K := K) (H := X) (l := a) (by omega)
  have p2 := fun K X => r_limbs (K := K) (H := X) (l := b) (by omega)
  have p3 := fun K X => r_common (K := K) (H := X) (x := nv a) (y := nv b) (by omega) (by omega)
  have hg : (lb (Nat.gcd (nv a) (nv b))).length ≤ 16777216 := by
    by_cases h0 : nv a = 0
    · rw [h0, Nat.gcd_zero_left]; exact sb
    · exact lb_mono (Nat.gcd_le_left _ (by omega)) sa
  have p4 := fun K X => r_text (K := K) (LV_SL (H := X) (lb (Nat.gcd (nv a) (nv b)))) (lb_limbs _) (by omega)
  rw [lv_lb] at p4
  simp [go_sem, F_ref1_GCD, p1, p2, p3, p4]

section
variable {n : Bool} {a b : List UInt8} {H : List O}
theorem r_Valid (ha : a.length ≤ 16777216) (hb : b.length ≤ 16777216) (K : V → List O → Prop) :
    Fx D0 fn_ref1_Valid [rw_ n a b] H K = K (.bool (validB n a b)) H := by
  refine Fx_is ?_ K
  refine Fx_ofp (as := [rw_ n a b]) d_ref1_Valid rfl ?_
  have p1 := fun K X => r_Normalize (K := K) (H := X) (l := a) (by omega)
  have p2 := fun K X => r_Normalize (K := K) (H := X) (l := b) (by omega)
  have p3 := fun K X => r_GCD (K := K) (H := X) ha hb
  unfold rw_ validB
  by_cases h1 : tidy a = a
  · by_cases h2 : tidy b = b
    · rw [h1] at p1
      rw [h2] at p2
      by_cases h5 : b = [1]
      · subst h5
        by_cases h3 : a = []
        · subst h3
          simp [go_sem, F_ref1_Valid, p1, p2, seq_st, sne_st, h1, h2]
        · simp [go_sem, F_ref1_Valid, p1, p2, seq_st, sne_st, h1, h2, h3]
      · by_cases h3 : a = []
        · subst h3
          cases n
          · simp [go_sem, F_ref1_Valid, p1, p2, seq_st, sne_st, h1, h2, h5]
          · simp [go_sem, F_ref1_Valid, p1, p2, seq_st, sne_st, h1, h2, h5]
        · by_cases h4 : b = []
          · subst h4
            simp [go_sem, F_ref1_Valid, p1, p2, seq_st, sne_st, h1, h2, h3]
          · simp [go_sem, F_ref1_Valid, p1, p2, p3, seq_st, sne_st, h1, h2, h3, h4, h5, nbl_eq_one]
    · rw [h1] at p1
      simp [go_sem, F_ref1_Valid, p1, p2, seq_st, sne_st, h1, h2]
  · simp [go_sem, F_ref1_Valid, p1, seq_st, sne_st, h1]
theorem r_Fix (ha : a.length ≤ 16777216) (hb : b.length ≤ 16777216) (K : V → List O → Prop) :
    Fx D0 fn_ref1_Fix [rw_ n a b] H K = K (rv (dec n a b)) H := by
  refine Fx_is ?_ K
  refine Fx_ofp (as := [rw_ n a b]) d_ref1_Fix rfl ?_
  have p1 := fun K X => r_Valid (K := K) (H := X) (n := n) ha hb
  by_cases h : validB n a b = true
  · rw [← valid_rv h]
    rw [h] at p1
    unfold rw_ at p1 ⊢
    simp [go_sem, F_ref1_Fix, p1, getO, readV]
  · have h' : validB n a b = false := by simpa using h
    have h0 : dec n a b = 0 := by unfold dec; rw [if_neg h]
    rw [h0, rv_zero]
    rw [h'] at p1
    unfold rw_ at p1 ⊢
    simp [go_sem, F_ref1_Fix, p1, getO, readV, rz, st]
theorem r_Signum {q : Rat} (K : V → List O → Prop) : Fx D0 fn_ref1_Signum [rv q] H K = K (.int q.num.sign) H := by
  refine Fx_is ?_ K
  refine Fx_ofp (as := [rv q]) d_ref1_Signum rfl ?_
  rw [rv_parts, rw_at]
  by_cases h : q.num = 0
  · have h1 := (nm_nil q).2 h
    simp [go_sem, F_ref1_Signum, seq_st, sne_st, h, h1]
  · have h1 : ¬ nm q = [] := fun e => h ((nm_nil q).1 e)
    by_cases h2 : q.num < 0
    · have h3 : ng q = true := by simp [ng, h2]
      simp [go_sem, F_ref1_Signum, seq_st, sne_st, h1, h3, Int.sign_eq_neg_one_of_neg h2]
    · have h3 : ng q = false := by simp [ng, h2]
      simp [go_sem, F_ref1_Signum, seq_st, sne_st, h1, h3, Int.sign_eq_one_of_pos (show 0 < q.num by omega)]
theorem r_Sign (ha : a.length ≤ 16777216) (hb : b.length ≤ 16777216) (K : V → List O → Prop) :
    Fx D0 fn_ref1_Sign [rw_ n a b] H K = K (.int (dec n a b).num.sign) H := by
  refine Fx_is ?_ K
  refine Fx_ofp (as := [rw_ n a b]) d_ref1_Sign rfl ?_
  have p1 := fun K X => r_Fix (K := K) (H := X) (n := n) ha hb
  unfold rw_ at p1 ⊢
  simp [go_sem, F_ref1_Sign, p1, r_Signum]
end
end Go.Proofs.Vm
/-! Lists of structs that are only read; a loop that counts up; groups as they come. -/
namespace Go.Proofs.Vm
open Go Go.Proofs.Na

section
variable {α : Type} [Enc α] {t : Bool} {l : List α} {i k m : Nat} {x : α} {v : V} {H : List O} {K : V → List O → Prop} {q : IntKind} {n : Int}
/-- A pointer into it. -/
def ep (t : Bool) (l : List α) (i k : Nat) : V := .fptr t (l.flatMap Enc.cells) (i * Enc.sz α + k)
theorem flat_take (h : l[i]? = some x) (hk : k + m ≤ Enc.sz α) : ((l.flatMap Enc.cells).drop (i * Enc.sz α + k)).take m = ((Enc.cells x).drop k).take m := by
  rw [← List.drop_drop, flat_drop h, List.drop_append, List.take_append_of_le_length]
  · rw [List.length_drop, Enc.len]; omega
omit [Enc α] in
theorem flat_lt (h : l[i]? = some x) : i < l.length := by
  rcases Nat.lt_or_ge i l.length with h1 | h1
  · exact h1
  · rw [List.getElem?_eq_none h1] at h; cases h
theorem slice_sl {H : List O} : sliceV H (Enc.sz α) (sl t l) = some (l.flatMap Enc.cells, l.length) := slice_fsl (flat_len l)
theorem len_sl : lenV (sl t l) = some l.length := _root_.id rfl
theorem frz_sl {d : Nat} : frz H (d + 1) (sl t l) = some (sl t l) := _root_.id rfl
theorem frz_sl' : frz H depth (sl t l) = some (sl t l) := _root_.id rfl
theorem out_sl : out H depth (sl false l) = some (sl false l) := _root_.id rfl
theorem ia_sl {s : Nat} (hs : s = Enc.sz α) (h : l[n.toNat]? = some x) (h0 : 0 ≤ n) (h1 : 0 < s) : iaK s (sl t l) (.lit (.int q n)) H K = K (ep t l n.toNat 0) H := by
  subst hs
  unfold sl ep
  rw [ia_fsl, flat_len]
  have := flat_lt h
  have h2 : n.toNat * Enc.sz α < l.length * Enc.sz α := Nat.mul_lt_mul_of_pos_right this h1
  have h3 : n < l.length := by omega
  simp only [h0, h3, h2, and_self, true_and, Nat.add_zero]
theorem off_ep {j : Nat} : offV j (ep t l i k) = some (ep t l i (k + j)) := by unfold ep; rw [off_f, Nat.add_assoc]
theorem ld_ep (h : l[i]? = some x) (hk : (Enc.cells x)[k]? = some v) : ldK none (ep t l i k) H K = K v H := by
  unfold ep
  have h1 : k < Enc.sz α := by
    rcases Nat.lt_or_ge k (Enc.sz α) with h1 | h1
    · exact h1
    · rw [List.getElem?_eq_none (by rw [Enc.len]; exact h1)] at hk; cases hk
  rw [ld_f, read_n, flat_get h h1, hk, opt_s]
theorem lds_ep (h : l[i]? = some x) (hk : k + m ≤ Enc.sz α) : ldK (some m) (ep t l i k) H K = K (.agg (((Enc.cells x).drop k).take m)) H := by
  unfold ep
  have h1 := flat_lt h
  have h2 : (i + 1) * Enc.sz α ≤ l.length * Enc.sz α := Nat.mul_le_mul_right _ h1
  rw [ld_f, read_s, flat_take h hk, flat_len]
  have h3 : i * Enc.sz α + k + m ≤ l.length * Enc.sz α := by rw [Nat.add_mul] at h2; omega
  simp only [h3, true_and]
end

section
variable {D : FuncId → Option Def}
/-- A loop that counts up. -/
theorem Bx_up {Q : Ex → (Nat → V) → List O → Prop} {b : B} (n : Nat) (I : Nat → (Nat → V) → List O → Prop)
    (round : ∀ i s H, i ≤ n → I i s H → Bx D b s H (Ex.then (fun s H => i < n ∧ I (i + 1) s H) Q)) {s : Nat → V} {H : List O} (h : I 0 s H) : Bx D (.loop b) s H Q := by
  refine Bx_rounds (fun k s H => ∃ i, i ≤ n ∧ k = n - i ∧ I i s H) ?_ n s H ⟨0, Nat.zero_le _, by omega, h⟩
  rintro k s H ⟨i, hi, rfl, hI⟩
  refine Bx_mono (round i s H hi hI) fun e s H q => ?_
  cases e with
  | normal => exact ⟨n - (i + 1), by have := q.1; omega, i + 1, q.1, rfl, q.2⟩
  | exit id => exact q
  | ret => exact q
end
theorem get_end {X : List O} {a : O} : (X ++ [a])[X.length]? = some a := by simp
theorem set_end {X : List O} {a b : O} : (X ++ [a]).set X.length b = X ++ [b] := by rw [List.set_append_right _ _ (Nat.le_refl _)]; simp

/-! ### Groups as they come -/
structure XR where
  n : Bool
  a : List UInt8
  b : List UInt8
abbrev XR.c (x : XR) : List V := [.lit (.bool x.n), st x.a, st x.b]
abbrev XR.v (x : XR) : V := .agg x.c
def XR.q (x : XR) : Rat := dec x.n x.a x.b
theorem XR.v_eq (x : XR) : rw_ x.n x.a x.b = .agg x.c := rfl
structure Claim where
  holder : Int
  rank : Int
  amount : XR
structure Part where
  claim : Int
  capped : Bool
  cap : XR
structure Tier where
  parts : List Part
structure Agree where
  tiers : List Tier
structure Estate where
  cash : XR
  claims : List Claim
  agrees : List Agree
structure Leg where
  estate : Int
  claim : Int
structure Debt where
  whole : XR
  legs : List Leg
structure Group where
  estates : List Estate
  debts : List Debt
instance : Enc XR := ⟨3, fun x => x.c, fun _ => rfl⟩
abbrev Claim.c (x : Claim) : List V := [.int x.holder, .int x.rank, .lit (.bool x.amount.n), st x.amount.a, st x.amount.b]
instance : Enc Claim := ⟨5, Claim.c, fun _ => rfl⟩
abbrev Part.c (x : Part) : List V := [.int x.claim, .lit (.bool x.capped), .lit (.bool x.cap.n), st x.cap.a, st x.cap.b]
instance : Enc Part := ⟨5, Part.c, fun _ => rfl⟩
abbrev Tier.c (x : Tier) : List V := [sl true x.parts]
instance : Enc Tier := ⟨1, Tier.c, fun _ => rfl⟩
abbrev Agree.c (x : Agree) : List V := [sl true x.tiers]
instance : Enc Agree := ⟨1, Agree.c, fun _ => rfl⟩
abbrev Estate.c (x : Estate) : List V := [.lit (.bool x.cash.n), st x.cash.a, st x.cash.b, sl true x.claims, sl true x.agrees]
instance : Enc Estate := ⟨5, Estate.c, fun _ => rfl⟩
abbrev Leg.c (x : Leg) : List V := [.int x.estate, .int x.claim]
instance : Enc Leg := ⟨2, Leg.c, fun _ => rfl⟩
abbrev Debt.c (x : Debt) : List V := [.lit (.bool x.whole.n), st x.whole.a, st x.whole.b, sl true x.legs]
instance : Enc Debt := ⟨4, Debt.c, fun _ => rfl⟩
abbrev Group.c (g : Group) : List V := [sl true g.estates, sl true g.debts]

section
variable {t : Bool} {i m k : Nat} {H : List O} {K : V → List O → Prop} {q : IntKind} {n : Int} {v : V}
theorem ia_Claim {l : List Claim} {x : Claim} (h : l[n.toNat]? = some x) (h0 : 0 ≤ n) : iaK 5 (sl t l) (.lit (.int q n)) H K = K (ep t l n.toNat 0) H := ia_sl rfl h h0 (by decide)
theorem ia_Part {l : List Part} {x : Part} (h : l[n.toNat]? = some x) (h0 : 0 ≤ n) : iaK 5 (sl t l) (.lit (.int q n)) H K = K (ep t l n.toNat 0) H := ia_sl rfl h h0 (by decide)
theorem ia_Estate {l : List Estate} {x : Estate} (h : l[n.toNat]? = some x) (h0 : 0 ≤ n) : iaK 5 (sl t l) (.lit (.int q n)) H K = K (ep t l n.toNat 0) H := ia_sl rfl h h0 (by decide)
theorem ia_Tier {l : List Tier} {x : Tier} (h : l[n.toNat]? = some x) (h0 : 0 ≤ n) : iaK 1 (sl t l) (.lit (.int q n)) H K = K (ep t l n.toNat 0) H := ia_sl rfl h h0 (by decide)
theorem ia_Agree {l : List Agree} {x : Agree} (h : l[n.toNat]? = some x) (h0 : 0 ≤ n) : iaK 1 (sl t l) (.lit (.int q n)) H K = K (ep t l n.toNat 0) H := ia_sl rfl h h0 (by decide)
theorem ia_Leg {l : List Leg} {x : Leg} (h : l[n.toNat]? = some x) (h0 : 0 ≤ n) : iaK 2 (sl t l) (.lit (.int q n)) H K = K (ep t l n.toNat 0) H := ia_sl rfl h h0 (by decide)
theorem ia_Debt {l : List Debt} {x : Debt} (h : l[n.toNat]? = some x) (h0 : 0 ≤ n) : iaK 4 (sl t l) (.lit (.int q n)) H K = K (ep t l n.toNat 0) H := ia_sl rfl h h0 (by decide)
theorem ia_XR {l : List XR} {x : XR} (h : l[n.toNat]? = some x) (h0 : 0 ≤ n) : iaK 3 (sl t l) (.lit (.int q n)) H K = K (ep t l n.toNat 0) H := ia_sl rfl h h0 (by decide)
theorem ld_Claim {l : List Claim} {x : Claim} (h : l[i]? = some x) (hk : x.c[k]? = some v) : ldK none (ep t l i k) H K = K v H := ld_ep h hk
theorem ld_Part {l : List Part} {x : Part} (h : l[i]? = some x) (hk : x.c[k]? = some v) : ldK none (ep t l i k) H K = K v H := ld_ep h hk
theorem ld_Estate {l : List Estate} {x : Estate} (h : l[i]? = some x) (hk : x.c[k]? = some v) : ldK none (ep t l i k) H K = K v H := ld_ep h hk
theorem ld_Tier {l : List Tier} {x : Tier} (h : l[i]? = some x) (hk : x.c[k]? = some v) : ldK none (ep t l i k) H K = K v H := ld_ep h hk
theorem ld_Agree {l : List Agree} {x : Agree} (h : l[i]? = some x) (hk : x.c[k]? = some v) : ldK none (ep t l i k) H K = K v H := ld_ep h hk
theorem ld_Leg {l : List Leg} {x : Leg} (h : l[i]? = some x) (hk : x.c[k]? = some v) : ldK none (ep t l i k) H K = K v H := ld_ep h hk
theorem ld_Debt {l : List Debt} {x : Debt} (h : l[i]? = some x) (hk : x.c[k]? = some v) : ldK none (ep t l i k) H K = K v H := ld_ep h hk
theorem lds_Claim {l : List Claim} {x : Claim} (h : l[i]? = some x) (hk : k + m ≤ 5) : ldK (some m) (ep t l i k) H K = K (.agg ((x.c.drop k).take m)) H := lds_ep h hk
theorem lds_Part {l : List Part} {x : Part} (h : l[i]? = some x) (hk : k + m ≤ 5) : ldK (some m) (ep t l i k) H K = K (.agg ((x.c.drop k).take m)) H := lds_ep h hk
theorem lds_Estate {l : List Estate} {x : Estate} (h : l[i]? = some x) (hk : k + m ≤ 5) : ldK (some m) (ep t l i k) H K = K (.agg ((x.c.drop k).take m)) H := lds_ep h hk
theorem lds_Agree {l : List Agree} {x : Agree} (h : l[i]? = some x) (hk : k + m ≤ 1) : ldK (some m) (ep t l i k) H K = K (.agg ((x.c.drop k).take m)) H := lds_ep h hk
theorem lds_Leg {l : List Leg} {x : Leg} (h : l[i]? = some x) (hk : k + m ≤ 2) : ldK (some m) (ep t l i k) H K = K (.agg ((x.c.drop k).take m)) H := lds_ep h hk
theorem lds_Debt {l : List Debt} {x : Debt} (h : l[i]? = some x) (hk : k + m ≤ 4) : ldK (some m) (ep t l i k) H K = K (.agg ((x.c.drop k).take m)) H := lds_ep h hk
theorem lds_XR {l : List XR} {x : XR} (h : l[i]? = some x) (hk : k + m ≤ 3) : ldK (some m) (ep t l i k) H K = K (.agg ((x.c.drop k).take m)) H := lds_ep h hk
theorem leaf_sl {α : Type} [Enc α] {l : List α} : (sl t l).leaf = true := _root_.id rfl
theorem cells_sl' {α : Type} [Enc α] {l : List α} : (sl t l).cells = [sl t l] := _root_.id rfl
theorem leaf_st {l : List UInt8} : (st l).leaf = true := _root_.id rfl
end
end Go.Proofs.Vm
/-! Few: whether a group is short enough for a law. -/
namespace Go.Proofs.Vm
open Go Go.Proofs.Na

def fewX (x : XR) : Bool := decide (x.a.length ≤ 24) && decide (x.b.length ≤ 24)
def fewT (t : Tier) : Bool := decide (t.parts.length ≤ 30) && t.parts.all fun p => fewX p.cap
def fewA (a : Agree) : Bool := decide (a.tiers.length ≤ 30) && a.tiers.all fewT
def fewE (e : Estate) : Bool := decide (e.claims.length ≤ 8) && decide (e.agrees.length ≤ 4) && fewX e.cash && e.claims.all (fun c => fewX c.amount) && e.agrees.all fewA
def fewD (d : Debt) : Bool := decide (d.legs.length ≤ 12) && fewX d.whole
def fewG (g : Group) : Bool := decide (g.estates.length ≤ 4) && decide (g.debts.length ≤ 5) && g.estates.all fewE && g.debts.all fewD

section
variable {H : List O}
theorem c_law0_Few (x : XR) (K : V → List O → Prop) : Fx D0 fn_law0_Few [.agg x.c] H K = K (.bool (fewX x)) H := by
  refine Fx_is ?_ K
  refine Fx_ofp (as := [.agg x.c]) d_law0_Few rfl ?_
  unfold fewX
  by_cases h : x.a.length ≤ 24
  · have h' : (x.a.length : Int) ≤ 24 := by omega
    by_cases h2 : x.b.length ≤ 24
    · have h2' : (x.b.length : Int) ≤ 24 := by omega
      simp [go_sem, F_law0_Few, slen_st, h, h2, h', h2', leaf_st]
    · have h2' : ¬ (x.b.length : Int) ≤ 24 := by omega
      simp [go_sem, F_law0_Few, slen_st, h, h2, h', h2', leaf_st]
  · have h' : ¬ (x.a.length : Int) ≤ 24 := by omega
    simp [go_sem, F_law0_Few, slen_st, h, h', leaf_st]
end
theorem all_step {α : Type} {p : α → Bool} {l : List α} {i : Nat} {x : α} (h : l[i]? = some x) : (l.drop i).all p = (p x && (l.drop (i + 1)).all p) := by
  have h1 := flat_lt h
  rw [List.drop_eq_getElem_cons h1, List.all_cons]
  rw [List.getElem?_eq_getElem h1] at h
  rw [Option.some.inj h]
theorem drop_end {α : Type} {l : List α} {i : Nat} (h : l.length ≤ i) : l.drop i = [] := List.drop_of_length_le h
theorem some_at {α : Type} {l : List α} {i : Nat} (h : i < l.length) : ∃ x, l[i]? = some x := ⟨_, List.getElem?_eq_getElem h⟩

def fwI1 (e : Estate) (i : Nat) (s : Nat → V) (X : List O) : Prop :=
  ∃ Y, X = .cells e.c ty_api_Estate 5 :: Y ∧ s 1 = .optr 0 0 ∧ s 28 = sl true e.claims ∧ s 29 = .int (e.claims.length : Int) ∧ s 30 = .int (i : Int) ∧ e.claims.all (fun c => fewX c.amount) = (e.claims.drop i).all (fun c => fewX c.amount)
def fwI2 (e : Estate) (i : Nat) (s : Nat → V) (X : List O) : Prop :=
  ∃ Y, X = .cells e.c ty_api_Estate 5 :: Y ∧ s 1 = .optr 0 0 ∧ s 40 = sl true e.agrees ∧ s 41 = .int (e.agrees.length : Int) ∧ s 42 = .int (i : Int) ∧ e.agrees.all fewA = (e.agrees.drop i).all fewA
def fwI3 (e : Estate) (a : Agree) (i j : Nat) (s : Nat → V) (X : List O) : Prop :=
  ∃ Y, X = .cells e.c ty_api_Estate 5 :: Y ∧ s 1 = .optr 0 0 ∧ s 40 = sl true e.agrees ∧ s 41 = .int (e.agrees.length : Int) ∧ s 42 = .int (i : Int) ∧ s 51 = sl true a.tiers ∧ s 52 = .int (a.tiers.length : Int) ∧ s 53 = .int (j : Int) ∧ a.tiers.all fewT = (a.tiers.drop j).all fewT
def fwI4 (e : Estate) (a : Agree) (t : Tier) (i j k : Nat) (s : Nat → V) (X : List O) : Prop :=
  ∃ Y, X = .cells e.c ty_api_Estate 5 :: Y ∧ s 1 = .optr 0 0 ∧ s 40 = sl true e.agrees ∧ s 41 = .int (e.agrees.length : Int) ∧ s 42 = .int (i : Int) ∧ s 51 = sl true a.tiers ∧ s 52 = .int (a.tiers.length : Int) ∧ s 53 = .int (j : Int) ∧
    s 60 = sl true t.parts ∧ s 61 = .int (t.parts.length : Int) ∧ s 62 = .int (k : Int) ∧ t.parts.all (fun p => fewX p.cap) = (t.parts.drop k).all (fun p => fewX p.cap)
theorem c_law17_Few (e : Estate) {H : List O} (K : V → List O → Prop) : Fx D0 fn_law17_Few [.agg e.c] H K = K (.bool (fewE e)) H := by
  refine Fx_is ?_ K
  refine Fx_ofp (as := [.agg e.c]) d_law17_Few rfl ?_
  have p0 := fun K X => c_law0_Few (H := X) e.cash K
  unfold fewE
  by_cases h1 : e.claims.length ≤ 8
  case neg =>
    have h1' : 8 < (e.claims.length : Int) := by omega
    simp [go_sem, F_law17_Few, len_sl, leaf_st, leaf_sl, h1, h1']
  by_cases h2 : e.agrees.length ≤ 4
  case neg =>
    have h1' : ¬ 8 < (e.claims.length : Int) := by omega
    have h2' : 4 < (e.agrees.length : Int) := by omega
    simp [go_sem, F_law17_Few, len_sl, leaf_st, leaf_sl, h1, h1', h2, h2']
  have h1' : ¬ 8 < (e.claims.length : Int) := by omega
  have h2' : ¬ 4 < (e.agrees.length : Int) := by omega
  by_cases h3 : fewX e.cash = true
  case neg => simp [go_sem, F_law17_Few, len_sl, leaf_st, leaf_sl, h1, h1', h2, h2', h3, p0]
  simp [go_sem, F_law17_Few, len_sl, leaf_st, leaf_sl, h1, h1', h2, h2', h3, p0]
  refine Bx_up e.claims.length (fwI1 e) ?_ ⟨[], rfl, rfl, rfl, rfl, rfl, rfl⟩
  rintro i s X hi ⟨Y, rfl, s1, s28, s29, s30, hall⟩
  refine wpB_ok ?_
  rw [hall]
  by_cases hlt : i < e.claims.length
  · obtain ⟨c, hc⟩ := some_at hlt
    rw [all_step hc]
    have w1 : IntKind.i64.wrap ((i : Int) + 1) = ((i + 1 : Nat) : Int) := by rw [wi (by omega) (by omega)]; omega
    have i1 := fun K X => ia_Claim (K := K) (H := X) (t := true) (q := .i64) (n := (i : Int)) hc (by omega)
    have i2 := fun K X => lds_Claim (K := K) (H := X) (t := true) (k := 0) (m := 5) hc (by omega)
    have p1 := fun K X => c_law0_Few (H := X) c.amount K
    simp at i1 i2
    cases hf : fewX c.amount
    · rw [hf] at p1
      simp [go_sem, s1, s28, s29, s30, hlt, i1, i2, leaf_st, w1, -Int.natCast_add, p1]
    · rw [hf] at p1
      simp [go_sem, s1, s28, s29, s30, hlt, i1, i2, leaf_st, w1, -Int.natCast_add, p1]
      exact ⟨_, rfl, by simp [go_sem, s1], by simp [go_sem, s28], by simp [go_sem, s29], by simp [go_sem], by rw [hall, all_step hc, hf]; simp⟩
  · rw [drop_end (by omega)]
    simp [go_sem, s1, s28, s29, s30, hlt, len_sl]
    refine Bx_up e.agrees.length (fwI2 e) ?_ ⟨Y, rfl, by simp [go_sem, s1], by simp [go_sem], by simp [go_sem], by simp [go_sem], rfl⟩
    clear s1 s28 s29 s30 hall hlt hi Y i
    clear s
    rintro i s X hi ⟨Y, rfl, s1, s40, s41, s42, hall⟩
    refine wpB_ok ?_
    rw [hall]
    by_cases hlt : i < e.agrees.length
    · obtain ⟨a, ha⟩ := some_at hlt
      rw [all_step ha]
      have w1 : IntKind.i64.wrap ((i : Int) + 1) = ((i + 1 : Nat) : Int) := by rw [wi (by omega) (by omega)]; omega
      have i1 := fun K X => ia_Agree (K := K) (H := X) (t := true) (q := .i64) (n := (i : Int)) ha (by omega)
      have i2 := fun K X => lds_Agree (K := K) (H := X) (t := true) (k := 0) (m := 1) ha (by omega)
      simp at i1 i2
      unfold fewA
      by_cases h4 : a.tiers.length ≤ 30
      case neg =>
        have h4' : 30 < (a.tiers.length : Int) := by omega
        simp [go_sem, s1, s40, s41, s42, hlt, i1, i2, leaf_sl, len_sl, h4, h4']
      have h4' : ¬ 30 < (a.tiers.length : Int) := by omega
      simp [go_sem, s1, s40, s41, s42, hlt, i1, i2, leaf_sl, len_sl, h4, h4']
      refine Bx_up a.tiers.length (fwI3 e a i) ?_ ⟨_, rfl, by simp [go_sem, s1], by simp [go_sem, s40], by simp [go_sem, s41], by simp [go_sem, s42], by simp [go_sem], by simp [go_sem], by simp [go_sem], rfl⟩
      clear s1 s40 s41 s42 Y
      clear s
      rintro j s X hj ⟨Y, rfl, s1, s40, s41, s42, s51, s52, s53, hall2⟩
      refine wpB_ok ?_
      rw [hall2]
      by_cases hlt2 : j < a.tiers.length
      · obtain ⟨t, ht⟩ := some_at hlt2
        rw [all_step ht]
        have w2 : IntKind.i64.wrap ((j : Int) + 1) = ((j + 1 : Nat) : Int) := by rw [wi (by omega) (by omega)]; omega
        have i3 := fun K X => ia_Tier (K := K) (H := X) (t := true) (q := .i64) (n := (j : Int)) ht (by omega)
        have i4 := fun K X => ld_Tier (K := K) (H := X) (t := true) (k := 0) ht rfl
        simp at i3 i4
        unfold fewT
        by_cases h5 : t.parts.length ≤ 30
        case neg =>
          have h5' : 30 < (t.parts.length : Int) := by omega
          simp [go_sem, s1, s51, s52, s53, hlt2, i3, i4, leaf_sl, len_sl, h5, h5']
        have h5' : ¬ 30 < (t.parts.length : Int) := by omega
        simp [go_sem, s1, s51, s52, s53, hlt2, i3, i4, leaf_sl, len_sl, h5, h5']
        refine Bx_up t.parts.length (fwI4 e a t i j) ?_ ⟨_, rfl, by simp [go_sem, s1], by simp [go_sem, s40], by simp [go_sem, s41], by simp [go_sem, s42], by simp [go_sem, s51], by simp [go_sem, s52], by simp [go_sem, s53], by simp [go_sem], by simp [go_sem], by simp [go_sem], rfl⟩
        clear s1 s40 s41 s42 s51 s52 s53 Y
        clear s
        rintro k s X hk ⟨Y, rfl, s1, s40, s41, s42, s51, s52, s53, s60, s61, s62, hall3⟩
        refine wpB_ok ?_
        rw [hall3]
        by_cases hlt3 : k < t.parts.length
        · obtain ⟨p, hp⟩ := some_at hlt3
          rw [all_step hp]
          have w3 : IntKind.i64.wrap ((k : Int) + 1) = ((k + 1 : Nat) : Int) := by rw [wi (by omega) (by omega)]; omega
          have i5 := fun K X => ia_Part (K := K) (H := X) (t := true) (q := .i64) (n := (k : Int)) hp (by omega)
          have i6 := fun K X => lds_Part (K := K) (H := X) (t := true) (k := 0) (m := 5) hp (by omega)
          have p1 := fun K X => c_law0_Few (H := X) p.cap K
          simp at i5 i6
          cases hf : fewX p.cap
          · rw [hf] at p1
            simp [go_sem, s1, s60, s61, s62, hlt3, i5, i6, leaf_st, w3, -Int.natCast_add, p1]
          · rw [hf] at p1
            simp [go_sem, s1, s60, s61, s62, hlt3, i5, i6, leaf_st, w3, -Int.natCast_add, p1]
            exact ⟨_, rfl, by simp [go_sem, s1], by simp [go_sem, s40], by simp [go_sem, s41], by simp [go_sem, s42], by simp [go_sem, s51], by simp [go_sem, s52], by simp [go_sem, s53], by simp [go_sem, s60], by simp [go_sem, s61], by simp [go_sem], by rw [hall3, all_step hp, hf]; simp⟩
        · rw [drop_end (by omega)]
          rw [drop_end (l := t.parts) (i := k) (by omega)] at hall3
          simp [go_sem, s1, s53, s60, s61, s62, hlt3, w2, hlt2, -Int.natCast_add]
          exact ⟨_, rfl, by simp [go_sem, s1], by simp [go_sem, s40], by simp [go_sem, s41], by simp [go_sem, s42], by simp [go_sem, s51], by simp [go_sem, s52], by simp [go_sem], by rw [hall2, all_step ht, fewT, hall3]; simp [h5]⟩
      · rw [drop_end (by omega)]
        rw [drop_end (l := a.tiers) (i := j) (by omega)] at hall2
        simp [go_sem, s1, s42, s51, s52, s53, hlt2, w1, hlt, -Int.natCast_add]
        exact ⟨_, rfl, by simp [go_sem, s1], by simp [go_sem, s40], by simp [go_sem, s41], by simp [go_sem], by rw [hall, all_step ha, fewA, hall2]; simp [h4]⟩
    · rw [drop_end (by omega)]
      simp [go_sem, s1, s40, s41, s42, hlt]
end Go.Proofs.Vm
/-! Few of a group; the reference's member, earlier, agreement. -/
namespace Go.Proofs.Vm
open Go Go.Proofs.Na

theorem any_step {α : Type} {p : α → Bool} {l : List α} {i : Nat} {x : α} (h : l[i]? = some x) : (l.drop i).any p = (p x || (l.drop (i + 1)).any p) := by
  have h1 := flat_lt h
  rw [List.drop_eq_getElem_cons h1, List.any_cons]
  rw [List.getElem?_eq_getElem h1] at h
  rw [Option.some.inj h]
theorem inc {i : Nat} (h : i < 9223372036854775807) : IntKind.i64.wrap ((i : Int) + 1) = ((i + 1 : Nat) : Int) := by rw [wi (by omega) (by omega)]; omega

def gwI1 (g : Group) (i : Nat) (s : Nat → V) (X : List O) : Prop :=
  ∃ Y, X = .cells g.c ty_api_Group 2 :: Y ∧ s 1 = .optr 0 0 ∧ s 18 = sl true g.estates ∧ s 19 = .int (g.estates.length : Int) ∧ s 20 = .int (i : Int) ∧ g.estates.all fewE = (g.estates.drop i).all fewE
def gwI2 (g : Group) (i : Nat) (s : Nat → V) (X : List O) : Prop :=
  ∃ Y, X = .cells g.c ty_api_Group 2 :: Y ∧ s 1 = .optr 0 0 ∧ s 29 = sl true g.debts ∧ s 30 = .int (g.debts.length : Int) ∧ s 31 = .int (i : Int) ∧ g.debts.all fewD = (g.debts.drop i).all fewD
theorem c_law18_Few (g : Group) {H : List O} (K : V → List O → Prop) : Fx D0 fn_law18_Few [.agg g.c] H K = K (.bool (fewG g)) H := by
  refine Fx_is ?_ K
  refine Fx_ofp (as := [.agg g.c]) d_law18_Few rfl ?_
  unfold fewG
  by_cases h1 : g.estates.length ≤ 4
  case neg =>
    have h1' : 4 < (g.estates.length : Int) := by omega
    simp [go_sem, F_law18_Few, len_sl, leaf_sl, h1, h1']
  by_cases h2 : g.debts.length ≤ 5
  case neg =>
    have h1' : ¬ 4 < (g.estates.length : Int) := by omega
    have h2' : 5 < (g.debts.length : Int) := by omega
    simp [go_sem, F_law18_Few, len_sl, leaf_sl, h1, h1', h2, h2']
  have h1' : ¬ 4 < (g.estates.length : Int) := by omega
  have h2' : ¬ 5 < (g.debts.length : Int) := by omega
  simp [go_sem, F_law18_Few, len_sl, leaf_st, leaf_sl, h1, h1', h2, h2']
  refine Bx_up g.estates.length (gwI1 g) ?_ ⟨[], rfl, rfl, rfl, rfl, rfl, rfl⟩
  rintro i s X hi ⟨Y, rfl, s1, s18, s19, s20, hall⟩
  refine wpB_ok ?_
  rw [hall]
  by_cases hlt : i < g.estates.length
  · obtain ⟨e, he⟩ := some_at hlt
    rw [all_step he]
    have w1 := inc (i := i) (by omega)
    have i1 := fun K X => ia_Estate (K := K) (H := X) (t := true) (q := .i64) (n := (i : Int)) he (by omega)
    have i2 := fun K X => lds_Estate (K := K) (H := X) (t := true) (k := 0) (m := 5) he (by omega)
    have p1 := fun K X => c_law17_Few (H := X) e K
    simp at i1 i2
    cases hf : fewE e
    · rw [hf] at p1
      simp [go_sem, s1, s18, s19, s20, hlt, i1, i2, leaf_st, leaf_sl, w1, -Int.natCast_add, p1]
    · rw [hf] at p1
      simp [go_sem, s1, s18, s19, s20, hlt, i1, i2, leaf_st, leaf_sl, w1, -Int.natCast_add, p1]
      exact ⟨_, rfl, by simp [go_sem, s1], by simp [go_sem, s18], by simp [go_sem, s19], by simp [go_sem], by rw [hall, all_step he, hf]; simp⟩
  · rw [drop_end (by omega)]
    simp [go_sem, s1, s18, s19, s20, hlt, len_sl]
    refine Bx_up g.debts.length (gwI2 g) ?_ ⟨Y, rfl, by simp [go_sem, s1], by simp [go_sem], by simp [go_sem], by simp [go_sem], rfl⟩
    clear s1 s18 s19 s20 hall hlt hi Y i
    clear s
    rintro i s X hi ⟨Y, rfl, s1, s29, s30, s31, hall⟩
    refine wpB_ok ?_
    rw [hall]
    by_cases hlt : i < g.debts.length
    · obtain ⟨d, hd⟩ := some_at hlt
      rw [all_step hd]
      have w1 := inc (i := i) (by omega)
      have i1 := fun K X => ia_Debt (K := K) (H := X) (t := true) (q := .i64) (n := (i : Int)) hd (by omega)
      have i2 := fun K X => lds_Debt (K := K) (H := X) (t := true) (k := 0) (m := 4) hd (by omega)
      have p1 := fun K X => c_law0_Few (H := X) d.whole K
      simp at i1 i2
      unfold fewD
      by_cases h3 : d.legs.length ≤ 12
      case neg =>
        have h3' : 12 < (d.legs.length : Int) := by omega
        simp [go_sem, s1, s29, s30, s31, hlt, i1, i2, leaf_sl, leaf_st, len_sl, h3, h3']
      have h3' : ¬ 12 < (d.legs.length : Int) := by omega
      cases hf : fewX d.whole
      · rw [hf] at p1
        simp [go_sem, s1, s29, s30, s31, hlt, i1, i2, leaf_st, leaf_sl, len_sl, w1, h3, h3', -Int.natCast_add, p1]
      · rw [hf] at p1
        simp [go_sem, s1, s29, s30, s31, hlt, i1, i2, leaf_st, leaf_sl, len_sl, w1, h3, h3', -Int.natCast_add, p1]
        exact ⟨_, rfl, by simp [go_sem, s1], by simp [go_sem, s29], by simp [go_sem, s30], by simp [go_sem], by rw [hall, all_step hd, fewD, hf]; simp [h3]⟩
    · rw [drop_end (by omega)]
      simp [go_sem, s1, s29, s30, s31, hlt]

/-! ### The reference -/
def memA (a : Agree) (z : Int) : Bool := a.tiers.any fun t => t.parts.any fun p => p.claim == z
def mbI1 (a : Agree) (z : Int) (i : Nat) (s : Nat → V) (X : List O) : Prop :=
  X = [.cells a.c ty_api_Agreement 1] ∧ s 1 = .int z ∧ s 2 = .optr 0 0 ∧ s 5 = .int (i : Int) ∧ memA a z = (a.tiers.drop i).any fun t => t.parts.any fun p => p.claim == z
def mbI2 (a : Agree) (t : Tier) (z : Int) (i j : Nat) (s : Nat → V) (X : List O) : Prop :=
  X = [.cells a.c ty_api_Agreement 1] ∧ s 1 = .int z ∧ s 2 = .optr 0 0 ∧ s 5 = .int (i : Int) ∧ s 6 = .int (j : Int) ∧ (t.parts.any fun p => p.claim == z) = (t.parts.drop j).any fun p => p.claim == z
theorem r_member {a : Agree} {z : Int} (ha : a.tiers.length < 9223372036854775807) (ht : ∀ t ∈ a.tiers, t.parts.length < 9223372036854775807) {H : List O} (K : V → List O → Prop) : Fx D0 fn_ref17_member [.agg a.c, .int z] H K = K (.bool (memA a z)) H := by
  refine Fx_is ?_ K
  refine Fx_ofp (as := [.agg a.c, .int z]) d_ref17_member rfl ?_
  simp [go_sem, F_ref17_member, leaf_sl]
  refine Bx_up a.tiers.length (mbI1 a z) ?_ ⟨rfl, rfl, rfl, rfl, rfl⟩
  rintro i s X hi ⟨rfl, s1, s2, s5, hall⟩
  refine wpB_ok ?_
  rw [hall]
  by_cases hlt : i < a.tiers.length
  · obtain ⟨t, ht_⟩ := some_at hlt
    have htl := ht t (List.mem_of_getElem? ht_)
    rw [any_step ht_]
    have w1 := inc (i := i) (by omega)
    have i1 := fun K X => ia_Tier (K := K) (H := X) (t := true) (q := .i64) (n := (i : Int)) ht_ (by omega)
    have i2 := fun K X => ld_Tier (K := K) (H := X) (t := true) (k := 0) ht_ rfl
    simp at i1 i2
    simp [go_sem, s1, s2, s5, hlt, i1, i2, leaf_sl, len_sl]
    refine Bx_up t.parts.length (mbI2 a t z i) ?_ ⟨rfl, by simp [go_sem, s1], by simp [go_sem, s2], by simp [go_sem, s5], by simp [go_sem], rfl⟩
    clear s1 s2 s5
    clear s
    rintro j s X hj ⟨rfl, s1, s2, s5, s6, hall2⟩
    refine wpB_ok ?_
    rw [hall2]
    by_cases hlt2 : j < t.parts.length
    · obtain ⟨p, hp⟩ := some_at hlt2
      rw [any_step hp]
      have w2 := inc (i := j) (by omega)
      have i3 := fun K X => ia_Part (K := K) (H := X) (t := true) (q := .i64) (n := (j : Int)) hp (by omega)
      have i4 := fun K X => ld_Part (K := K) (H := X) (t := true) (k := 0) hp rfl
      simp at i3 i4
      by_cases hz : p.claim = z
      · simp [go_sem, s1, s2, s5, s6, hlt2, i1, i2, i3, i4, len_sl, off_ep, hz]
      · have hz' : (p.claim == z) = false := by simpa using hz
        simp [go_sem, s1, s2, s5, s6, hlt2, i1, i2, i3, i4, len_sl, off_ep, hz', hz, w2, -Int.natCast_add]
        exact ⟨rfl, by simp [go_sem, s1], by simp [go_sem, s2], by simp [go_sem, s5], by simp [go_sem], by rw [hall2, any_step hp, hz']; simp⟩
    · rw [drop_end (by omega)]
      rw [drop_end (l := t.parts) (i := j) (by omega)] at hall2
      simp [go_sem, s1, s2, s5, s6, hlt2, i1, i2, len_sl, w1, hlt, -Int.natCast_add]
      exact ⟨rfl, by simp [go_sem, s1], by simp [go_sem, s2], by simp [go_sem], by rw [hall, any_step ht_, hall2]; simp⟩
  · rw [drop_end (by omega)]
    simp [go_sem, s1, s2, s5, hlt, len_sl]

/-- Lists short enough for a machine. -/
def okA (a : Agree) : Prop := a.tiers.length < 4611686018427387904 ∧ ∀ t ∈ a.tiers, t.parts.length < 9223372036854775807
def erI (e : Estate) (k : Nat) (z : Int) (i : Nat) (s : Nat → V) (X : List O) : Prop :=
  X = [.cells e.c ty_api_Estate 5] ∧ s 1 = .int (k : Int) ∧ s 2 = .int z ∧ s 3 = .optr 0 0 ∧ s 7 = .int (i : Int) ∧ ((e.agrees.take k).any (memA · z)) = ((e.agrees.take k).drop i).any (memA · z)
theorem r_earlier {e : Estate} {k : Nat} {z : Int} (hk : k ≤ e.agrees.length) (hl : e.agrees.length < 9223372036854775807) (ha : ∀ a ∈ e.agrees, okA a) {H : List O} (K : V → List O → Prop) :
    Fx D0 fn_ref17_earlier [.agg e.c, .int (k : Int), .int z] H K = K (.bool ((e.agrees.take k).any (memA · z))) H := by
  refine Fx_is ?_ K
  refine Fx_ofp (as := [.agg e.c, .int (k : Int), .int z]) d_ref17_earlier rfl ?_
  simp [go_sem, F_ref17_earlier, leaf_sl, leaf_st]
  refine Bx_up k (erI e k z) ?_ ⟨rfl, rfl, rfl, rfl, rfl, rfl⟩
  rintro i s X hi ⟨rfl, s1, s2, s3, s7, hall⟩
  refine wpB_ok ?_
  rw [hall]
  by_cases hlt : i < k
  · obtain ⟨a, hat⟩ := some_at (l := e.agrees.take k) (i := i) (by simp; omega)
    rw [any_step hat]
    have hat2 : e.agrees[i]? = some a := by rw [List.getElem?_take] at hat; simpa [hlt] using hat
    obtain ⟨ha1, ha2⟩ := ha a (List.mem_of_getElem? hat2)
    have w1 := inc (i := i) (by omega)
    have i1 := fun K X => ia_Agree (K := K) (H := X) (t := true) (q := .i64) (n := (i : Int)) hat2 (by omega)
    have i2 := fun K X => lds_Agree (K := K) (H := X) (t := true) (k := 0) (m := 1) hat2 (by omega)
    have p1 := fun K X => r_member (H := X) (z := z) (by omega) ha2 K
    simp at i1 i2
    cases hf : memA a z
    · rw [hf] at p1
      simp [go_sem, s1, s2, s3, s7, hlt, i1, i2, p1, w1, -Int.natCast_add]
      exact ⟨rfl, by simp [go_sem, s1], by simp [go_sem, s2], by simp [go_sem, s3], by simp [go_sem], by rw [hall, any_step hat, hf]; simp⟩
    · rw [hf] at p1
      simp [go_sem, s1, s2, s3, s7, hlt, i1, i2, p1]
  · rw [drop_end (by simp; omega)]
    simp [go_sem, s1, s2, s3, s7, hlt]
end Go.Proofs.Vm
/-! The reference's checks of an agreement and of an estate. -/
namespace Go.Proofs.Vm
open Go Go.Proofs.Na

/-- The first error. -/
def firstE {α : Type} (f : α → Int) : List α → Int
  | [] => 0
  | x :: l => if f x = 0 then firstE f l else f x
theorem first_step {α : Type} {f : α → Int} {l : List α} {i : Nat} {x : α} (h : l[i]? = some x) : firstE f (l.drop i) = if f x = 0 then firstE f (l.drop (i + 1)) else f x := by
  have h1 := flat_lt h
  rw [List.drop_eq_getElem_cons h1, firstE]
  rw [List.getElem?_eq_getElem h1] at h
  rw [Option.some.inj h]
def chkP (n : Nat) (prior : List Agree) (p : Part) : Int :=
  if p.claim < -1 ∨ (n : Int) ≤ p.claim then 1
  else if p.claim = -1 ∧ p.capped = false then 21
  else if p.capped = true ∧ p.cap.q.num.sign < 0 then 7
  else if p.claim ≠ -1 ∧ prior.any (memA · p.claim) = true then 20
  else 0
def chkA (n : Nat) (prior : List Agree) (a : Agree) : Int :=
  if 24 < a.tiers.length then 2
  else if a.tiers.any (fun t => decide (24 < t.parts.length)) = true then 2
  else firstE (fun t => firstE (chkP n prior) t.parts) a.tiers
def chkC (c : Claim) : Int :=
  if c.holder < -1 ∨ 8 ≤ c.holder then 19
  else if c.rank < 0 ∨ 7 < c.rank then 1
  else if c.amount.q.num.sign < 0 then 7
  else 0
def chkAs (n : Nat) (prior : List Agree) : List Agree → Int
  | [] => 0
  | a :: l => if chkA n prior a = 0 then chkAs n (prior ++ [a]) l else chkA n prior a
def chkE (e : Estate) : Int :=
  if 24 < e.claims.length ∨ 12 < e.agrees.length then 2
  else if e.cash.q.num.sign < 0 then 7
  else if firstE chkC e.claims = 0 then chkAs e.claims.length [] e.agrees else firstE chkC e.claims
/-- Texts short enough for the arithmetic. -/
def okX (x : XR) : Prop := x.a.length ≤ 16777216 ∧ x.b.length ≤ 16777216
theorem r_SignX {x : XR} (h : okX x) {H : List O} (K : V → List O → Prop) : Fx D0 fn_ref1_Sign [.agg x.c] H K = K (.int x.q.num.sign) H := r_Sign h.1 h.2 K
theorem c_SignX {x : XR} (h : okX x) {H : List O} (K : V → List O → Prop) : Fx D0 fn_rational_Sign [.agg x.c] H K = K (.int x.q.num.sign) H := c_Sign h.1 h.2 K
structure okE (e : Estate) : Prop where
  cash : okX e.cash
  claims : ∀ c ∈ e.claims, okX c.amount
  parts : ∀ a ∈ e.agrees, ∀ t ∈ a.tiers, ∀ p ∈ t.parts, okX p.cap
  lc : e.claims.length < 4611686018427387904
  la : e.agrees.length < 4611686018427387904
  lt : ∀ a ∈ e.agrees, okA a

def agI1 (e : Estate) (a : Agree) (k : Nat) (i : Nat) (s : Nat → V) (X : List O) : Prop :=
  ∃ Y, X = .cells e.c ty_api_Estate 5 :: .cells a.c ty_api_Agreement 1 :: Y ∧ s 1 = .int (k : Int) ∧ s 2 = .optr 0 0 ∧ s 5 = .optr 1 0 ∧ s 6 = .int (i : Int) ∧ a.tiers.any (fun t => decide (24 < t.parts.length)) = (a.tiers.drop i).any (fun t => decide (24 < t.parts.length))
def agI2 (e : Estate) (a : Agree) (k : Nat) (P : Part → Int) (i : Nat) (s : Nat → V) (X : List O) : Prop :=
  ∃ Y, X = .cells e.c ty_api_Estate 5 :: .cells a.c ty_api_Agreement 1 :: Y ∧ s 1 = .int (k : Int) ∧ s 2 = .optr 0 0 ∧ s 5 = .optr 1 0 ∧ s 7 = .int (i : Int) ∧ firstE (fun t => firstE P t.parts) a.tiers = firstE (fun t => firstE P t.parts) (a.tiers.drop i)
def agI3 (e : Estate) (a : Agree) (t : Tier) (k : Nat) (P : Part → Int) (i j : Nat) (s : Nat → V) (X : List O) : Prop :=
  ∃ Y, X = .cells e.c ty_api_Estate 5 :: .cells a.c ty_api_Agreement 1 :: Y ∧ s 1 = .int (k : Int) ∧ s 2 = .optr 0 0 ∧ s 5 = .optr 1 0 ∧ s 7 = .int (i : Int) ∧ s 8 = .int (j : Int) ∧ firstE P t.parts = firstE P (t.parts.drop j)
theorem r_agreement {e : Estate} {k : Nat} {a : Agree} (hk : e.agrees[k]? = some a) (ok : okE e) {H : List O} (K : V → List O → Prop) :
    Fx D0 fn_ref17_agreement [.agg e.c, .int (k : Int)] H K = K (.int (chkA e.claims.length (e.agrees.take k) a)) H := by
  have hkl := flat_lt hk
  have okl := ok.la
  have hok := ok.lt a (List.mem_of_getElem? hk)
  have hcap := ok.parts a (List.mem_of_getElem? hk)
  refine Fx_is ?_ K
  refine Fx_ofp (as := [.agg e.c, .int (k : Int)]) d_ref17_agreement rfl ?_
  have k1 := fun K X => ia_Agree (K := K) (H := X) (t := true) (q := .i64) (n := (k : Int)) hk (by omega)
  have k2 := fun K X => lds_Agree (K := K) (H := X) (t := true) (k := 0) (m := 1) hk (by omega)
  simp at k1 k2
  unfold chkA
  by_cases h1 : 24 < a.tiers.length
  · have h1' : 24 < (a.tiers.length : Int) := by omega
    simp [go_sem, F_ref17_agreement, leaf_sl, leaf_st, k1, k2, len_sl, h1, h1']
  have h1' : ¬ 24 < (a.tiers.length : Int) := by omega
  simp [go_sem, F_ref17_agreement, leaf_sl, leaf_st, k1, k2, len_sl, h1, h1', -List.any_eq_true]
  refine Bx_up a.tiers.length (agI1 e a k) ?_ ⟨[], rfl, rfl, rfl, rfl, rfl, rfl⟩
  rintro i s X hi ⟨Y, rfl, s1, s2, s5, s6, hall⟩
  refine wpB_ok ?_
  rw [hall]
  by_cases hlt : i < a.tiers.length
  · obtain ⟨t, ht⟩ := some_at hlt
    rw [any_step ht]
    have w1 := inc (i := i) (by omega)
    have i1 := fun K X => ia_Tier (K := K) (H := X) (t := true) (q := .i64) (n := (i : Int)) ht (by omega)
    have i2 := fun K X => ld_Tier (K := K) (H := X) (t := true) (k := 0) ht rfl
    simp at i1 i2
    by_cases h2 : 24 < t.parts.length
    · have h2' : 24 < (t.parts.length : Int) := by omega
      simp [go_sem, s1, s2, s5, s6, hlt, i1, i2, len_sl, h2, h2']
    · have h2' : ¬ 24 < (t.parts.length : Int) := by omega
      simp [go_sem, s1, s2, s5, s6, hlt, i1, i2, len_sl, h2, h2', w1, -Int.natCast_add, -List.any_eq_true]
      exact ⟨_, rfl, by simp [go_sem, s1], by simp [go_sem, s2], by simp [go_sem, s5], by simp [go_sem], by rw [hall, any_step ht]; simp [h2]⟩
  · rw [drop_end (by omega)]
    simp [go_sem, s1, s2, s5, s6, hlt, len_sl]
    generalize hP : chkP e.claims.length (e.agrees.take k) = P
    refine Bx_up a.tiers.length (agI2 e a k P) ?_ ⟨Y, rfl, by simp [go_sem, s1], by simp [go_sem, s2], by simp [go_sem, s5], by simp [go_sem], rfl⟩
    clear s1 s2 s5 s6 hall hlt hi Y i
    clear s
    rintro i s X hi ⟨Y, rfl, s1, s2, s5, s7, hall⟩
    refine wpB_ok ?_
    rw [hall]
    by_cases hlt : i < a.tiers.length
    · obtain ⟨t, ht⟩ := some_at hlt
      have htl := hok.2 t (List.mem_of_getElem? ht)
      have hcap := hcap t (List.mem_of_getElem? ht)
      rw [first_step ht]
      have w1 := inc (i := i) (by omega)
      have i1 := fun K X => ia_Tier (K := K) (H := X) (t := true) (q := .i64) (n := (i : Int)) ht (by omega)
      have i2 := fun K X => ld_Tier (K := K) (H := X) (t := true) (k := 0) ht rfl
      simp at i1 i2
      simp [go_sem, s1, s2, s5, s7, hlt, i1, i2, len_sl]
      refine Bx_up t.parts.length (agI3 e a t k P i) ?_ ⟨Y, rfl, by simp [go_sem, s1], by simp [go_sem, s2], by simp [go_sem, s5], by simp [go_sem, s7], by simp [go_sem], rfl⟩
      clear s1 s2 s5 s7 Y
      clear s
      rintro j s X hj ⟨Y, rfl, s1, s2, s5, s7, s8, hall2⟩
      refine wpB_ok ?_
      rw [hall2]
      by_cases hlt2 : j < t.parts.length
      · obtain ⟨p, hp⟩ := some_at hlt2
        rw [first_step hp]
        have hx := hcap p (List.mem_of_getElem? hp)
        have w2 := inc (i := j) (by omega)
        have i3 := fun K X => ia_Part (K := K) (H := X) (t := true) (q := .i64) (n := (j : Int)) hp (by omega)
        have i4 := fun K X => lds_Part (K := K) (H := X) (t := true) (k := 0) (m := 5) hp (by omega)
        simp at i3 i4
        have p1 := fun K X => r_SignX (H := X) hx K
        have p2 := fun K X => r_earlier (e := e) (k := k) (z := p.claim) (H := X) (by omega) (by omega) ok.lt K
        by_cases c1 : p.claim < -1
        · have hv : P p = 1 := by rw [← hP]; simp [chkP, c1]
          simp [go_sem, s1, s2, s5, s7, s8, hlt2, i1, i2, i3, i4, len_sl, leaf_st, c1, hv]
        by_cases c2 : (e.claims.length : Int) ≤ p.claim
        · have hv : P p = 1 := by rw [← hP]; simp [chkP, c2]
          simp [go_sem, s1, s2, s5, s7, s8, hlt2, i1, i2, i3, i4, len_sl, leaf_st, c1, c2, hv]
        have next : P p = 0 → firstE P t.parts = firstE P (t.parts.drop (j + 1)) := fun hv => by rw [hall2, first_step hp, if_pos hv]
        by_cases c3 : p.claim = -1
        · have c2' : ¬ (e.claims.length : Int) ≤ -1 := by omega
          cases c4 : p.capped
          · have hv : P p = 21 := by rw [← hP]; simp [chkP, c2', c3, c4]
            simp [go_sem, s1, s2, s5, s7, s8, hlt2, i1, i2, i3, i4, len_sl, leaf_st, c2', c3, c4, hv]
          · by_cases c5 : p.cap.q.num.sign < 0
            · have hv : P p = 7 := by rw [← hP]; unfold chkP; rw [if_neg (by omega), if_neg (by simp [c4]), if_pos ⟨c4, c5⟩]
              simp [-Int.sign_neg_iff, go_sem, s1, s2, s5, s7, s8, hlt2, i1, i2, i3, i4, len_sl, leaf_st, c2', c3, c4, c5, p1, hv]
            · have hv : P p = 0 := by rw [← hP]; unfold chkP; rw [if_neg (by omega), if_neg (by simp [c4]), if_neg (fun h => c5 h.2), if_neg (fun h => h.1 c3)]
              simp [-Int.sign_neg_iff, go_sem, s1, s2, s5, s7, s8, hlt2, i1, i2, i3, i4, len_sl, leaf_st, c2', c3, c4, c5, p1, w2, hv, -Int.natCast_add]
              exact ⟨_, rfl, by simp [go_sem, s1], by simp [go_sem, s2], by simp [go_sem, s5], by simp [go_sem, s7], by simp [go_sem], next hv⟩
        · have c3' : (p.claim == -1) = false := by simpa using c3
          have c3'' : (p.claim != -1) = true := by simpa using c3
          by_cases c5 : p.capped = true ∧ p.cap.q.num.sign < 0
          · have hv : P p = 7 := by rw [← hP]; unfold chkP; rw [if_neg (by omega), if_neg (fun h => c3 h.1), if_pos c5]
            simp [-Int.sign_neg_iff, go_sem, s1, s2, s5, s7, s8, hlt2, i1, i2, i3, i4, len_sl, leaf_st, c1, c2, c3', c5.1, c5.2, p1, hv]
          · cases c6 : (e.agrees.take k).any (memA · p.claim)
            · have hv : P p = 0 := by rw [← hP]; unfold chkP; rw [if_neg (by omega), if_neg (fun h => c3 h.1), if_neg c5, if_neg (by simp only [c6]; simp)]
              rw [c6] at p2
              cases c4 : p.capped
              · simp [go_sem, s1, s2, s5, s7, s8, hlt2, i1, i2, i3, i4, len_sl, leaf_st, leaf_sl, c1, c2, c3', c3'', c4, p2, w2, hv, -Int.natCast_add]
                exact ⟨_, rfl, by simp [go_sem, s1], by simp [go_sem, s2], by simp [go_sem, s5], by simp [go_sem, s7], by simp [go_sem], next hv⟩
              · have c5 : ¬ p.cap.q.num.sign < 0 := fun h => c5 ⟨c4, h⟩
                simp [-Int.sign_neg_iff, go_sem, s1, s2, s5, s7, s8, hlt2, i1, i2, i3, i4, len_sl, leaf_st, leaf_sl, c1, c2, c3', c3'', c4, c5, p1, p2, w2, hv, -Int.natCast_add]
                exact ⟨_, rfl, by simp [go_sem, s1], by simp [go_sem, s2], by simp [go_sem, s5], by simp [go_sem, s7], by simp [go_sem], next hv⟩
            · have hv : P p = 20 := by rw [← hP]; unfold chkP; rw [if_neg (by omega), if_neg (fun h => c3 h.1), if_neg c5, if_pos ⟨c3, c6⟩]
              rw [c6] at p2
              cases c4 : p.capped
              · simp [go_sem, s1, s2, s5, s7, s8, hlt2, i1, i2, i3, i4, len_sl, leaf_st, leaf_sl, c1, c2, c3', c3'', c4, p2, hv]
              · have c5 : ¬ p.cap.q.num.sign < 0 := fun h => c5 ⟨c4, h⟩
                simp [-Int.sign_neg_iff, go_sem, s1, s2, s5, s7, s8, hlt2, i1, i2, i3, i4, len_sl, leaf_st, leaf_sl, c1, c2, c3', c3'', c4, c5, p1, p2, hv]
      · rw [drop_end (by omega)]
        rw [drop_end (l := t.parts) (i := j) (by omega)] at hall2
        simp [go_sem, s1, s2, s5, s7, s8, hlt2, i1, i2, len_sl, w1, hlt, firstE, -Int.natCast_add]
        exact ⟨_, rfl, by simp [go_sem, s1], by simp [go_sem, s2], by simp [go_sem, s5], by simp [go_sem], by rw [hall, first_step ht, hall2]; simp [firstE]⟩
    · rw [drop_end (by omega)]
      simp [go_sem, s1, s2, s5, s7, hlt, len_sl, firstE]
end Go.Proofs.Vm
/-! The reference's check of an estate; the first leg that a claim is; the claim of a leg. -/
namespace Go.Proofs.Vm
open Go Go.Proofs.Na

def ceI1 (e : Estate) (i : Nat) (s : Nat → V) (X : List O) : Prop :=
  ∃ Y, X = .cells e.c ty_api_Estate 5 :: Y ∧ s 1 = .optr 0 0 ∧ s 3 = .int (i : Int) ∧ firstE chkC e.claims = firstE chkC (e.claims.drop i)
def ceI2 (e : Estate) (i : Nat) (s : Nat → V) (X : List O) : Prop :=
  ∃ Y, X = .cells e.c ty_api_Estate 5 :: Y ∧ s 1 = .optr 0 0 ∧ s 5 = .int (i : Int) ∧ chkAs e.claims.length [] e.agrees = chkAs e.claims.length (e.agrees.take i) (e.agrees.drop i)
theorem chkAs_step {n : Nat} {l : List Agree} {i : Nat} {a : Agree} (h : l[i]? = some a) : chkAs n (l.take i) (l.drop i) = if chkA n (l.take i) a = 0 then chkAs n (l.take (i + 1)) (l.drop (i + 1)) else chkA n (l.take i) a := by
  have h1 := flat_lt h
  rw [List.drop_eq_getElem_cons h1, chkAs]
  have h2 : l[i] = a := by rw [List.getElem?_eq_getElem h1] at h; exact Option.some.inj h
  rw [h2, List.take_add_one, h]; rfl
theorem r_CheckEstate {e : Estate} (ok : okE e) {H : List O} (K : V → List O → Prop) : Fx D0 fn_ref17_CheckEstate [.agg e.c] H K = K (.int (chkE e)) H := by
  have lc := ok.lc
  have la := ok.la
  refine Fx_is ?_ K
  refine Fx_ofp (as := [.agg e.c]) d_ref17_CheckEstate rfl ?_
  unfold chkE
  by_cases h1 : 24 < e.claims.length
  · have h1' : 24 < (e.claims.length : Int) := by omega
    simp [go_sem, F_ref17_CheckEstate, len_sl, leaf_st, leaf_sl, h1, h1']
  have h1' : ¬ 24 < (e.claims.length : Int) := by omega
  by_cases h2 : 12 < e.agrees.length
  · have h2' : 12 < (e.agrees.length : Int) := by omega
    simp [go_sem, F_ref17_CheckEstate, len_sl, leaf_st, leaf_sl, h1, h1', h2, h2']
  have h2' : ¬ 12 < (e.agrees.length : Int) := by omega
  have p1 := fun K X => r_SignX (H := X) ok.cash K
  by_cases h3 : e.cash.q.num.sign < 0
  · simp [-Int.sign_neg_iff, go_sem, F_ref17_CheckEstate, len_sl, leaf_st, leaf_sl, h1, h1', h2, h2', p1, h3]
  simp [-Int.sign_neg_iff, go_sem, F_ref17_CheckEstate, len_sl, leaf_st, leaf_sl, h1, h1', h2, h2', p1, h3]
  refine Bx_up e.claims.length (ceI1 e) ?_ ⟨[], rfl, rfl, rfl, rfl⟩
  rintro i s X hi ⟨Y, rfl, s1, s3, hall⟩
  refine wpB_ok ?_
  by_cases hlt : i < e.claims.length
  · obtain ⟨c, hc⟩ := some_at hlt
    have hx := ok.claims c (List.mem_of_getElem? hc)
    have w1 := inc (i := i) (by omega)
    have i1 := fun K X => ia_Claim (K := K) (H := X) (t := true) (q := .i64) (n := (i : Int)) hc (by omega)
    have i2 := fun K X => lds_Claim (K := K) (H := X) (t := true) (k := 0) (m := 5) hc (by omega)
    simp at i1 i2
    have p2 := fun K X => r_SignX (H := X) hx K
    have next : firstE chkC e.claims = if chkC c = 0 then firstE chkC (e.claims.drop (i + 1)) else chkC c := by rw [hall, first_step hc]
    clear hall
    by_cases c1 : c.holder < -1 ∨ 8 ≤ c.holder
    · have hv : chkC c = 19 := by unfold chkC; rw [if_pos c1]
      rw [hv, if_neg (by omega)] at next
      by_cases c1a : c.holder < -1
      · simp [go_sem, s1, s3, hlt, i1, i2, len_sl, leaf_st, leaf_sl, c1a, next]
      · have c1b : 8 ≤ c.holder := by omega
        simp [go_sem, s1, s3, hlt, i1, i2, len_sl, leaf_st, leaf_sl, c1a, c1b, next]
    have c1a : ¬ c.holder < -1 := by omega
    have c1b : ¬ 8 ≤ c.holder := by omega
    by_cases c2 : c.rank < 0 ∨ 7 < c.rank
    · have hv : chkC c = 1 := by unfold chkC; rw [if_neg c1, if_pos c2]
      rw [hv, if_neg (by omega)] at next
      by_cases c2a : c.rank < 0
      · simp [go_sem, s1, s3, hlt, i1, i2, len_sl, leaf_st, leaf_sl, c1a, c1b, c2a, next]
      · have c2b : 7 < c.rank := by omega
        simp [go_sem, s1, s3, hlt, i1, i2, len_sl, leaf_st, leaf_sl, c1a, c1b, c2a, c2b, next]
    have c2a : ¬ c.rank < 0 := by omega
    have c2b : ¬ 7 < c.rank := by omega
    by_cases c3 : c.amount.q.num.sign < 0
    · have hv : chkC c = 7 := by unfold chkC; rw [if_neg c1, if_neg c2, if_pos c3]
      rw [hv, if_neg (by omega)] at next
      simp [-Int.sign_neg_iff, go_sem, s1, s3, hlt, i1, i2, len_sl, leaf_st, leaf_sl, c1a, c1b, c2a, c2b, p2, c3, next]
    · have hv : chkC c = 0 := by unfold chkC; rw [if_neg c1, if_neg c2, if_neg c3]
      rw [if_pos hv] at next
      simp [-Int.sign_neg_iff, go_sem, s1, s3, hlt, i1, i2, len_sl, leaf_st, leaf_sl, c1a, c1b, c2a, c2b, p2, c3, w1, -Int.natCast_add]
      exact ⟨_, rfl, by simp [go_sem, s1], by simp [go_sem], next⟩
  · rw [drop_end (by omega)] at hall
    simp only [firstE] at hall
    rw [hall, if_pos rfl]
    simp [go_sem, s1, s3, hlt, len_sl]
    refine Bx_up e.agrees.length (ceI2 e) ?_ ⟨Y, rfl, by simp [go_sem, s1], by simp [go_sem], rfl⟩
    clear s1 s3 hlt hi Y i
    clear s
    rintro i s X hi ⟨Y, rfl, s1, s5, hall2⟩
    refine wpB_ok ?_
    by_cases hlt : i < e.agrees.length
    · obtain ⟨a, ha⟩ := some_at hlt
      rw [chkAs_step ha] at hall2
      have w1 := inc (i := i) (by omega)
      have p2 := fun K X => r_agreement ha ok (H := X) K
      by_cases hv : chkA e.claims.length (e.agrees.take i) a = 0
      · rw [if_pos hv] at hall2
        rw [hv] at p2
        simp [go_sem, s1, s5, hlt, len_sl, p2, w1, -Int.natCast_add]
        exact ⟨_, rfl, by simp [go_sem, s1], by simp [go_sem], hall2⟩
      · rw [if_neg hv] at hall2
        have hv' : (chkA e.claims.length (e.agrees.take i) a != 0) = true := by simpa using hv
        simp [go_sem, s1, s5, hlt, len_sl, p2, hv', hall2]
    · rw [drop_end (by omega)] at hall2
      simp only [chkAs] at hall2
      simp [go_sem, s1, s5, hlt, len_sl, hall2]

/-! The first leg that a claim is. -/
def findL (e c : Int) : Nat → List Leg → Option Nat
  | _, [] => none
  | k, l :: ls => if l.estate = e ∧ l.claim = c then some k else findL e c (k + 1) ls
def findD (e c : Int) : Nat → List Debt → Option (Nat × Nat)
  | _, [] => none
  | d, x :: xs => match findL e c 0 x.legs with
    | some k => some (d, k)
    | none => findD e c (d + 1) xs
theorem findL_step {e c : Int} {l : List Leg} {i : Nat} {x : Leg} (h : l[i]? = some x) : findL e c i (l.drop i) = if x.estate = e ∧ x.claim = c then some i else findL e c (i + 1) (l.drop (i + 1)) := by
  have h1 := flat_lt h
  rw [List.drop_eq_getElem_cons h1, findL]
  rw [List.getElem?_eq_getElem h1] at h
  rw [Option.some.inj h]
theorem findD_step {e c : Int} {l : List Debt} {i : Nat} {x : Debt} (h : l[i]? = some x) : findD e c i (l.drop i) = match findL e c 0 x.legs with
    | some k => some (i, k)
    | none => findD e c (i + 1) (l.drop (i + 1)) := by
  have h1 := flat_lt h
  rw [List.drop_eq_getElem_cons h1, findD]
  rw [List.getElem?_eq_getElem h1] at h
  rw [Option.some.inj h]
def foundV : Option (Nat × Nat) → V
  | some (d, k) => .tup [.int (d : Int), .int (k : Int), .bool true]
  | none => .tup [.int 0, .int 0, .bool false]
def lgI1 (g : Group) (e c : Int) (i : Nat) (s : Nat → V) (X : List O) : Prop :=
  X = [.cells g.c ty_api_Group 2] ∧ s 1 = .int e ∧ s 2 = .int c ∧ s 3 = .optr 0 0 ∧ s 9 = .int (i : Int) ∧ findD e c 0 g.debts = findD e c i (g.debts.drop i)
def lgI2 (g : Group) (d : Debt) (e c : Int) (i j : Nat) (s : Nat → V) (X : List O) : Prop :=
  X = [.cells g.c ty_api_Group 2] ∧ s 1 = .int e ∧ s 2 = .int c ∧ s 3 = .optr 0 0 ∧ s 9 = .int (i : Int) ∧ s 10 = .int (j : Int) ∧ findL e c 0 d.legs = findL e c j (d.legs.drop j)
theorem r_leg {g : Group} {e c : Int} (hd : g.debts.length < 4611686018427387904) (hl : ∀ d ∈ g.debts, d.legs.length < 4611686018427387904) {H : List O} (K : V → List O → Prop) :
    Fx D0 fn_ref17_leg [.agg g.c, .int e, .int c] H K = K (foundV (findD e c 0 g.debts)) H := by
  refine Fx_is ?_ K
  refine Fx_ofp (as := [.agg g.c, .int e, .int c]) d_ref17_leg rfl ?_
  simp [go_sem, F_ref17_leg, leaf_sl]
  refine Bx_up g.debts.length (lgI1 g e c) ?_ ⟨rfl, rfl, rfl, rfl, rfl, rfl⟩
  rintro i s X hi ⟨rfl, s1, s2, s3, s9, hall⟩
  refine wpB_ok ?_
  by_cases hlt : i < g.debts.length
  · obtain ⟨d, hdt⟩ := some_at hlt
    have hll := hl d (List.mem_of_getElem? hdt)
    rw [findD_step hdt] at hall
    have w1 := inc (i := i) (by omega)
    have i1 := fun K X => ia_Debt (K := K) (H := X) (t := true) (q := .i64) (n := (i : Int)) hdt (by omega)
    have i2 := fun K X => ld_Debt (K := K) (H := X) (t := true) (k := 3) hdt rfl
    simp at i1 i2
    simp [go_sem, s1, s2, s3, s9, hlt, len_sl]
    refine Bx_up d.legs.length (lgI2 g d e c i) ?_ ⟨rfl, by simp [go_sem, s1], by simp [go_sem, s2], by simp [go_sem, s3], by simp [go_sem, s9], by simp [go_sem], rfl⟩
    clear s1 s2 s3 s9
    clear s
    rintro j s X hj ⟨rfl, s1, s2, s3, s9, s10, hall2⟩
    refine wpB_ok ?_
    by_cases hlt2 : j < d.legs.length
    · obtain ⟨l, hlt_⟩ := some_at hlt2
      rw [findL_step hlt_] at hall2
      have w2 := inc (i := j) (by omega)
      have i3 := fun K X => ia_Leg (K := K) (H := X) (t := true) (q := .i64) (n := (j : Int)) hlt_ (by omega)
      have i4 := fun K X => ld_Leg (K := K) (H := X) (t := true) (k := 0) hlt_ rfl
      have i5 := fun K X => ld_Leg (K := K) (H := X) (t := true) (k := 1) hlt_ rfl
      simp at i3 i4 i5
      by_cases c1 : l.estate = e
      · by_cases c2 : l.claim = c
        · rw [if_pos ⟨c1, c2⟩] at hall2
          rw [hall2] at hall
          simp [go_sem, s1, s2, s3, s9, s10, hlt2, i1, i2, i3, i4, i5, off_ep, len_sl, c1, c2, hall, foundV]
        · rw [if_neg (fun h => c2 h.2)] at hall2
          have c2' : (l.claim == c) = false := by simpa using c2
          simp [go_sem, s1, s2, s3, s9, s10, hlt2, i1, i2, i3, i4, i5, off_ep, len_sl, c1, c2', w2, -Int.natCast_add]
          exact ⟨rfl, by simp [go_sem, s1], by simp [go_sem, s2], by simp [go_sem, s3], by simp [go_sem, s9], by simp [go_sem], hall2⟩
      · rw [if_neg (fun h => c1 h.1)] at hall2
        have c1' : (l.estate == e) = false := by simpa using c1
        simp [go_sem, s1, s2, s3, s9, s10, hlt2, i1, i2, i3, i4, i5, off_ep, len_sl, c1', w2, -Int.natCast_add]
        exact ⟨rfl, by simp [go_sem, s1], by simp [go_sem, s2], by simp [go_sem, s3], by simp [go_sem, s9], by simp [go_sem], hall2⟩
    · rw [drop_end (by omega)] at hall2
      simp only [findL] at hall2
      rw [hall2] at hall
      simp [go_sem, s1, s2, s3, s9, s10, hlt2, i1, i2, off_ep, len_sl, w1, hlt, -Int.natCast_add]
      exact ⟨rfl, by simp [go_sem, s1], by simp [go_sem, s2], by simp [go_sem, s3], by simp [go_sem], hall⟩
  · rw [drop_end (by omega)] at hall
    simp only [findD] at hall
    simp [go_sem, s1, s2, s3, s9, hlt, len_sl, hall, foundV]

theorem r_claim {g : Group} {l : Leg} {e : Estate} {c : Claim} (he : g.estates[l.estate.toNat]? = some e) (h0 : 0 ≤ l.estate) (hc : e.claims[l.claim.toNat]? = some c) (h1 : 0 ≤ l.claim) {H : List O} (K : V → List O → Prop) :
    Fx D0 fn_ref17_claim [.agg g.c, .agg l.c] H K = K (.agg c.c) H := by
  refine Fx_is ?_ K
  refine Fx_ofp (as := [.agg g.c, .agg l.c]) d_ref17_claim rfl ?_
  have i1 := fun K X => ia_Estate (K := K) (H := X) (t := true) (q := .i64) he h0
  have i2 := fun K X => ld_Estate (K := K) (H := X) (t := true) (k := 3) he rfl
  have i3 := fun K X => ia_Claim (K := K) (H := X) (t := true) (q := .i64) hc h1
  have i4 := fun K X => lds_Claim (K := K) (H := X) (t := true) (k := 0) (m := 5) hc (by omega)
  simp at i4
  simp [go_sem, F_ref17_claim, leaf_sl, leaf_st, off_ep, i1, i2, i3, i4, getO, readV]
end Go.Proofs.Vm
/-! The reference's check of a group. -/
namespace Go.Proofs.Vm
open Go Go.Proofs.Na

instance : DecidableEq Leg := fun a b => if h : a.estate = b.estate ∧ a.claim = b.claim then isTrue (by cases a; cases b; simp_all) else isFalse (fun e => h (by rw [e]; exact ⟨rfl, rfl⟩))
theorem leg_ext {a b : Leg} (h1 : a.estate = b.estate) (h2 : a.claim = b.claim) : a = b := by cases a; cases b; simp_all
theorem findL_at {z : Leg} : ∀ {l : List Leg} {k m : Nat}, l[k]? = some z → z ∉ l.take k → findL z.estate z.claim m l = some (m + k)
  | [], k, m, h, _ => by simp at h
  | x :: l, 0, m, h, _ => by
    simp at h; subst h; simp [findL]
  | x :: l, k + 1, m, h, hn => by
    simp at h hn
    have hx : ¬ (x.estate = z.estate ∧ x.claim = z.claim) := fun e => hn.1 (leg_ext e.1.symm e.2.symm)
    rw [findL, if_neg hx, findL_at h hn.2]; congr 1; omega
theorem findL_before {z : Leg} : ∀ {l : List Leg} {k m : Nat}, z ∈ l.take k → ∃ j, j < k ∧ findL z.estate z.claim m l = some (m + j)
  | [], k, m, h => by simp at h
  | x :: l, 0, m, h => by simp at h
  | x :: l, k + 1, m, h => by
    by_cases hx : x.estate = z.estate ∧ x.claim = z.claim
    · exact ⟨0, by omega, by rw [findL, if_pos hx]; rfl⟩
    · simp at h
      rcases h with rfl | h
      · exact absurd ⟨rfl, rfl⟩ hx
      · obtain ⟨j, hj, e⟩ := findL_before (m := m + 1) h
        exact ⟨j + 1, by omega, by rw [findL, if_neg hx, e]; congr 1; omega⟩
theorem findL_not {z : Leg} : ∀ {l : List Leg} {m : Nat}, z ∉ l → findL z.estate z.claim m l = none
  | [], m, h => rfl
  | x :: l, m, h => by
    simp at h
    have hx : ¬ (x.estate = z.estate ∧ x.claim = z.claim) := fun e => h.1 (leg_ext e.1.symm e.2.symm)
    rw [findL, if_neg hx, findL_not h.2]
theorem findL_in {z : Leg} {l : List Leg} {m : Nat} (h : z ∈ l) : ∃ j, findL z.estate z.claim m l = some j := by
  obtain ⟨j, _, e⟩ := findL_before (k := l.length) (m := m) (by rw [List.take_length]; exact h)
  exact ⟨_, e⟩
theorem findD_at {z : Leg} : ∀ {ds : List Debt} {d m k : Nat} {x : Debt}, ds[d]? = some x → x.legs[k]? = some z → z ∉ (ds.take d).flatMap (·.legs) → z ∉ x.legs.take k → findD z.estate z.claim m ds = some (m + d, k)
  | [], d, m, k, x, h, _, _, _ => by simp at h
  | y :: ds, 0, m, k, x, h, hk, _, hn => by
    simp at h; subst h
    rw [findD, findL_at hk hn]; simp
  | y :: ds, d + 1, m, k, x, h, hk, hd, hn => by
    simp at h
    rw [List.take_succ_cons, List.flatMap_cons, List.mem_append] at hd
    rw [findD, findL_not (fun e => hd (.inl e))]
    simp only
    rw [findD_at h hk (fun e => hd (.inr e)) hn]; congr 2; omega
theorem findD_before {z : Leg} : ∀ {ds : List Debt} {d m k : Nat} {x : Debt}, ds[d]? = some x → (z ∈ (ds.take d).flatMap (·.legs) ∨ z ∈ x.legs.take k) → ∃ a b, findD z.estate z.claim m ds = some (m + a, b) ∧ (a ≠ d ∨ b ≠ k)
  | [], d, m, k, x, h, _ => by simp at h
  | y :: ds, 0, m, k, x, h, hz => by
    simp at h; subst h
    simp at hz
    obtain ⟨j, hj, e⟩ := findL_before (m := 0) hz
    exact ⟨0, j, by rw [findD, e]; simp, .inr (by omega)⟩
  | y :: ds, d + 1, m, k, x, h, hz => by
    simp at h
    rw [List.take_succ_cons, List.flatMap_cons, List.mem_append] at hz
    by_cases hy : z ∈ y.legs
    · obtain ⟨j, e⟩ := findL_in (m := 0) hy
      exact ⟨0, j, by rw [findD, e]; simp, .inl (by omega)⟩
    · have hz' : z ∈ (ds.take d).flatMap (·.legs) ∨ z ∈ x.legs.take k := by
        rcases hz with (hz | hz) | hz
        · exact absurd hz hy
        · exact .inl hz
        · exact .inr hz
      obtain ⟨a, b, e, hne⟩ := findD_before (m := m + 1) h hz'
      exact ⟨a + 1, b, by rw [findD, findL_not hy]; simp only; rw [e]; congr 2; omega, by omega⟩

/-! ### What the check answers -/
def holderOf (g : Group) (l : Leg) : Int := match g.estates[l.estate.toNat]? with
  | some e => match e.claims[l.claim.toNat]? with
    | some c => c.holder
    | none => 0
  | none => 0
def inR (g : Group) (l : Leg) : Prop := 0 ≤ l.estate ∧ 0 ≤ l.claim ∧ ∃ e, g.estates[l.estate.toNat]? = some e ∧ l.claim.toNat < e.claims.length
open Classical in
noncomputable def chkL (g : Group) (h0 : Int) (seen : List Leg) (l : Leg) : Int :=
  if ¬ inR g l then 1 else if l ∈ seen then 20 else if holderOf g l ≠ h0 then 19 else 0
noncomputable def chkLs (g : Group) (h0 : Int) (seen : List Leg) : List Leg → Int
  | [] => 0
  | l :: ls => if chkL g h0 seen l = 0 then chkLs g h0 (seen ++ [l]) ls else chkL g h0 seen l
def hold0 (g : Group) (d : Debt) : Int := match d.legs[0]? with
  | some l => holderOf g l
  | none => 0
noncomputable def chkD (g : Group) (seen : List Leg) (d : Debt) : Int :=
  if 8 < d.legs.length then 2 else if d.whole.q.num.sign < 0 then 7 else chkLs g (hold0 g d) seen d.legs
noncomputable def chkDs (g : Group) (seen : List Leg) : List Debt → Int
  | [] => 0
  | d :: ds => if chkD g seen d = 0 then chkDs g (seen ++ d.legs) ds else chkD g seen d
def chkH (n i : Nat) (c : Claim) : Int := if (n : Int) ≤ c.holder ∨ c.holder = i then 19 else 0
def chkHs (n i : Nat) : List Estate → Int
  | [] => 0
  | e :: l => if firstE (chkH n i) e.claims = 0 then chkHs n (i + 1) l else firstE (chkH n i) e.claims
noncomputable def chkG (g : Group) : Int :=
  if 8 < g.estates.length ∨ 16 < g.debts.length then 2
  else if firstE chkE g.estates = 0 then
    if chkHs g.estates.length 0 g.estates = 0 then chkDs g [] g.debts else chkHs g.estates.length 0 g.estates
  else firstE chkE g.estates
structure okG (g : Group) : Prop where
  es : ∀ e ∈ g.estates, okE e
  ds : ∀ d ∈ g.debts, okX d.whole ∧ d.legs.length < 4611686018427387904
  le : g.estates.length < 4611686018427387904
  ld : g.debts.length < 4611686018427387904
theorem chkLs_step {g : Group} {h0 : Int} {seen l : List Leg} {i : Nat} {x : Leg} (h : l[i]? = some x) : chkLs g h0 (seen ++ l.take i) (l.drop i) = if chkL g h0 (seen ++ l.take i) x = 0 then chkLs g h0 (seen ++ l.take (i + 1)) (l.drop (i + 1)) else chkL g h0 (seen ++ l.take i) x := by
  have h1 := flat_lt h
  rw [List.drop_eq_getElem_cons h1, chkLs]
  have h2 : l[i] = x := by rw [List.getElem?_eq_getElem h1] at h; exact Option.some.inj h
  rw [h2, List.take_add_one, h, List.append_assoc]; rfl
theorem chkDs_step {g : Group} {l : List Debt} {i : Nat} {x : Debt} (h : l[i]? = some x) : chkDs g ((l.take i).flatMap (·.legs)) (l.drop i) = if chkD g ((l.take i).flatMap (·.legs)) x = 0 then chkDs g ((l.take (i + 1)).flatMap (·.legs)) (l.drop (i + 1)) else chkD g ((l.take i).flatMap (·.legs)) x := by
  have h1 := flat_lt h
  rw [List.drop_eq_getElem_cons h1, chkDs]
  have h2 : l[i] = x := by rw [List.getElem?_eq_getElem h1] at h; exact Option.some.inj h
  rw [h2, List.take_add_one, h, List.flatMap_append]; simp
theorem chkHs_step {n : Nat} {l : List Estate} {i : Nat} {x : Estate} (h : l[i]? = some x) : chkHs n i (l.drop i) = if firstE (chkH n i) x.claims = 0 then chkHs n (i + 1) (l.drop (i + 1)) else firstE (chkH n i) x.claims := by
  have h1 := flat_lt h
  rw [List.drop_eq_getElem_cons h1, chkHs]
  rw [List.getElem?_eq_getElem h1] at h
  rw [Option.some.inj h]

def dbI (g : Group) (d : Debt) (n : Nat) (i : Nat) (s : Nat → V) (X : List O) : Prop :=
  X = [.cells g.c ty_api_Group 2] ∧ s 1 = .int (n : Int) ∧ s 2 = .optr 0 0 ∧ s 5 = sl true d.legs ∧ s 6 = .int (i : Int) ∧ (0 < i → ∃ l, d.legs[0]? = some l ∧ inR g l) ∧
    chkLs g (hold0 g d) ((g.debts.take n).flatMap (·.legs)) d.legs = chkLs g (hold0 g d) ((g.debts.take n).flatMap (·.legs) ++ d.legs.take i) (d.legs.drop i)
theorem r_debt {g : Group} {n : Nat} {d : Debt} (hd : g.debts[n]? = some d) (ok : okG g) {H : List O} (K : V → List O → Prop) :
    Fx D0 fn_ref17_debt [.agg g.c, .int (n : Int)] H K = K (.int (chkD g ((g.debts.take n).flatMap (·.legs)) d)) H := by
  have le := ok.le
  have ld := ok.ld
  have hn := flat_lt hd
  obtain ⟨okw, okl⟩ := ok.ds d (List.mem_of_getElem? hd)
  refine Fx_is ?_ K
  refine Fx_ofp (as := [.agg g.c, .int (n : Int)]) d_ref17_debt rfl ?_
  have k1 := fun K X => ia_Debt (K := K) (H := X) (t := true) (q := .i64) (n := (n : Int)) hd (by omega)
  have k2 := fun K X => ld_Debt (K := K) (H := X) (t := true) (k := 3) hd rfl
  have k3 := fun K X => lds_Debt (K := K) (H := X) (t := true) (k := 0) (m := 3) hd (by omega)
  simp at k1 k2 k3
  have p1 := fun K X => c_SignX (H := X) okw K
  have p1 := fun K X => r_SignX (H := X) okw K
  unfold chkD
  by_cases h1 : 8 < d.legs.length
  · have h1' : 8 < (d.legs.length : Int) := by omega
    simp [go_sem, F_ref17_debt, leaf_sl, len_sl, off_ep, k1, k2, h1, h1']
  have h1' : ¬ 8 < (d.legs.length : Int) := by omega
  by_cases h2 : d.whole.q.num.sign < 0
  · simp [-Int.sign_neg_iff, go_sem, F_ref17_debt, leaf_sl, len_sl, off_ep, k1, k2, k3, h1, h1', p1, h2]
  simp [-Int.sign_neg_iff, go_sem, F_ref17_debt, leaf_sl, len_sl, off_ep, k1, k2, k3, h1, h1', p1, h2]
  refine Bx_up d.legs.length (dbI g d n) ?_ ⟨rfl, rfl, rfl, rfl, rfl, fun h => absurd h (by omega), by simp⟩
  rintro i s X hi ⟨rfl, s1, s2, s5, s6, hfst, hall⟩
  refine wpB_ok ?_
  by_cases hlt : i < d.legs.length
  · obtain ⟨l, hl⟩ := some_at hlt
    rw [chkLs_step hl] at hall
    have w1 := inc (i := i) (by omega)
    have i1 := fun K X => ia_Leg (K := K) (H := X) (t := true) (q := .i64) (n := (i : Int)) hl (by omega)
    have i2 := fun K X => ld_Leg (K := K) (H := X) (t := true) (k := 0) hl rfl
    have i3 := fun K X => ld_Leg (K := K) (H := X) (t := true) (k := 1) hl rfl
    have i4 := fun K X => lds_Leg (K := K) (H := X) (t := true) (k := 0) (m := 2) hl (by omega)
    simp at i1 i2 i3 i4
    by_cases c1 : l.estate < 0
    · have hv : chkL g (hold0 g d) ((g.debts.take n).flatMap (·.legs) ++ d.legs.take i) l = 1 := by unfold chkL; rw [if_pos (fun h => by have := h.1; omega)]
      rw [hv] at hall
      simp [go_sem, s1, s2, s5, s6, hlt, i1, i2, off_ep, len_sl, c1, hall]
    by_cases c2 : (g.estates.length : Int) ≤ l.estate
    · have hv : chkL g (hold0 g d) ((g.debts.take n).flatMap (·.legs) ++ d.legs.take i) l = 1 := by
        unfold chkL; rw [if_pos]; rintro ⟨_, _, e, he, _⟩
        have := flat_lt he; omega
      rw [hv] at hall
      simp [go_sem, s1, s2, s5, s6, hlt, i1, i2, off_ep, len_sl, c1, c2, hall]
    obtain ⟨e, he⟩ := some_at (l := g.estates) (i := l.estate.toNat) (by omega)
    have j1 := fun K X => ia_Estate (K := K) (H := X) (t := true) (q := .i64) he (by omega)
    have j2 := fun K X => ld_Estate (K := K) (H := X) (t := true) (k := 3) he rfl
    by_cases c3 : l.claim < 0
    · have hv : chkL g (hold0 g d) ((g.debts.take n).flatMap (·.legs) ++ d.legs.take i) l = 1 := by unfold chkL; rw [if_pos (fun h => by have := h.2.1; omega)]
      rw [hv] at hall
      simp [go_sem, s1, s2, s5, s6, hlt, i1, i2, i3, off_ep, len_sl, c1, c2, c3, hall]
    by_cases c4 : (e.claims.length : Int) ≤ l.claim
    · have hv : chkL g (hold0 g d) ((g.debts.take n).flatMap (·.legs) ++ d.legs.take i) l = 1 := by
        unfold chkL; rw [if_pos]; rintro ⟨_, _, e', he', h'⟩
        rw [he] at he'; cases he'; omega
      rw [hv] at hall
      simp [go_sem, s1, s2, s5, s6, hlt, i1, i2, i3, j1, j2, off_ep, len_sl, c1, c2, c3, c4, hall]
    obtain ⟨c, hc⟩ := some_at (l := e.claims) (i := l.claim.toNat) (by omega)
    have hin : inR g l := ⟨by omega, by omega, e, he, flat_lt hc⟩
    have hho : holderOf g l = c.holder := by unfold holderOf; rw [he]; simp only; rw [hc]
    have p2 := fun K X => r_leg (g := g) (e := l.estate) (c := l.claim) (H := X) ld (fun d hd => (ok.ds d hd).2) K
    have p3 := fun K X => r_claim (g := g) (l := l) (H := X) he (by omega) hc (by omega) K
    by_cases c5 : l ∈ (g.debts.take n).flatMap (·.legs) ++ d.legs.take i
    · have hv : chkL g (hold0 g d) ((g.debts.take n).flatMap (·.legs) ++ d.legs.take i) l = 20 := by unfold chkL; rw [if_neg (fun h => h hin), if_pos c5]
      rw [hv] at hall
      obtain ⟨a, b, hf, hne⟩ := findD_before (m := 0) hd (List.mem_append.1 c5)
      rw [hf] at p2
      simp only [foundV, Nat.zero_add] at p2
      by_cases hne1 : a = n
      · subst hne1
        have hne2 : ((b : Int) == (i : Int)) = false := beq_eq_false_iff_ne.2 (by omega)
        have hne2' : ((b : Int) != (i : Int)) = true := bne_iff_ne.2 (by omega)
        simp [go_sem, s1, s2, s5, s6, hlt, i1, i2, i3, j1, j2, off_ep, len_sl, c1, c2, c3, c4, p2, hne2', hall]
      · have hne1' : ((a : Int) != (n : Int)) = true := bne_iff_ne.2 (by omega)
        simp [go_sem, s1, s2, s5, s6, hlt, i1, i2, i3, j1, j2, off_ep, len_sl, c1, c2, c3, c4, p2, hne1', hall]
    · have hf := findD_at (m := 0) hd hl (fun h => c5 (List.mem_append.2 (.inl h))) (fun h => c5 (List.mem_append.2 (.inr h)))
      rw [hf] at p2
      simp only [foundV, Nat.zero_add] at p2
      obtain ⟨l0, hl0⟩ := some_at (l := d.legs) (i := 0) (by omega)
      have hin0 : inR g l0 := by
        by_cases hi0 : i = 0
        · subst hi0; rw [hl] at hl0; cases hl0; exact hin
        · obtain ⟨l1, h1, h2⟩ := hfst (by omega)
          rw [hl0] at h1; cases h1; exact h2
      obtain ⟨a0, b0, e0, he0, hcl⟩ := hin0
      obtain ⟨c0, hc0⟩ := some_at hcl
      have hh0 : hold0 g d = c0.holder := by unfold hold0; rw [hl0]; simp only; unfold holderOf; rw [he0]; simp only; rw [hc0]
      have p4 := fun K X => r_claim (g := g) (l := l0) (H := X) he0 a0 hc0 b0 K
      have i5 := fun K X => ia_Leg (K := K) (H := X) (t := true) (q := .i64) (n := 0) hl0 (by omega)
      have i6 := fun K X => lds_Leg (K := K) (H := X) (t := true) (k := 0) (m := 2) hl0 (by omega)
      simp at i5 i6
      by_cases c6 : c.holder = c0.holder
      · have hv : chkL g (hold0 g d) ((g.debts.take n).flatMap (·.legs) ++ d.legs.take i) l = 0 := by unfold chkL; rw [if_neg (fun h => h hin), if_neg c5, if_neg (by rw [hho, hh0]; exact fun h => h c6)]
        rw [if_pos hv] at hall
        simp [go_sem, s1, s2, s5, s6, hlt, i1, i2, i3, i4, i5, i6, j1, j2, off_ep, len_sl, c1, c2, c3, c4, p2, p3, p4, c6, w1, -Int.natCast_add]
        exact ⟨rfl, by simp [go_sem, s1], by simp [go_sem, s2], by simp [go_sem, s5], by simp [go_sem], fun _ => ⟨l0, hl0, a0, b0, e0, he0, hcl⟩, hall⟩
      · have hv : chkL g (hold0 g d) ((g.debts.take n).flatMap (·.legs) ++ d.legs.take i) l = 19 := by unfold chkL; rw [if_neg (fun h => h hin), if_neg c5, if_pos (by rw [hho, hh0]; exact c6)]
        rw [hv] at hall
        have c6' : (c.holder != c0.holder) = true := bne_iff_ne.2 c6
        simp [go_sem, s1, s2, s5, s6, hlt, i1, i2, i3, i4, i5, i6, j1, j2, off_ep, len_sl, c1, c2, c3, c4, p2, p3, p4, c6', hall]
  · rw [drop_end (l := d.legs) (i := i) (by omega)] at hall
    simp only [chkLs] at hall
    simp [go_sem, s1, s2, s5, s6, hlt, len_sl, hall]
end Go.Proofs.Vm
/-! The reference's check of a group. -/
namespace Go.Proofs.Vm
open Go Go.Proofs.Na

def cgI1 (g : Group) (i : Nat) (s : Nat → V) (X : List O) : Prop :=
  X = [.cells g.c ty_api_Group 2] ∧ s 1 = .optr 0 0 ∧ s 3 = .int (i : Int) ∧ firstE chkE g.estates = firstE chkE (g.estates.drop i)
def cgI2 (g : Group) (i : Nat) (s : Nat → V) (X : List O) : Prop :=
  X = [.cells g.c ty_api_Group 2] ∧ s 1 = .optr 0 0 ∧ s 5 = .int (i : Int) ∧ chkHs g.estates.length 0 g.estates = chkHs g.estates.length i (g.estates.drop i)
def cgI3 (g : Group) (e : Estate) (i j : Nat) (s : Nat → V) (X : List O) : Prop :=
  X = [.cells g.c ty_api_Group 2] ∧ s 1 = .optr 0 0 ∧ s 5 = .int (i : Int) ∧ s 6 = .int (j : Int) ∧ firstE (chkH g.estates.length i) e.claims = firstE (chkH g.estates.length i) (e.claims.drop j)
def cgI4 (g : Group) (i : Nat) (s : Nat → V) (X : List O) : Prop :=
  X = [.cells g.c ty_api_Group 2] ∧ s 1 = .optr 0 0 ∧ s 8 = .int (i : Int) ∧ chkDs g [] g.debts = chkDs g ((g.debts.take i).flatMap (·.legs)) (g.debts.drop i)
theorem r_CheckGroup {g : Group} (ok : okG g) {H : List O} (K : V → List O → Prop) : Fx D0 fn_ref17_CheckGroup [.agg g.c] H K = K (.int (chkG g)) H := by
  have le := ok.le
  have ld := ok.ld
  refine Fx_is ?_ K
  refine Fx_ofp (as := [.agg g.c]) d_ref17_CheckGroup rfl ?_
  unfold chkG
  by_cases h1 : 8 < g.estates.length
  · have h1' : 8 < (g.estates.length : Int) := by omega
    simp [go_sem, F_ref17_CheckGroup, len_sl, leaf_sl, h1, h1']
  have h1' : ¬ 8 < (g.estates.length : Int) := by omega
  by_cases h2 : 16 < g.debts.length
  · have h2' : 16 < (g.debts.length : Int) := by omega
    simp [go_sem, F_ref17_CheckGroup, len_sl, leaf_sl, h1, h1', h2, h2']
  have h2' : ¬ 16 < (g.debts.length : Int) := by omega
  simp [go_sem, F_ref17_CheckGroup, len_sl, leaf_sl, h1, h1', h2, h2']
  refine Bx_up g.estates.length (cgI1 g) ?_ ⟨rfl, rfl, rfl, rfl⟩
  rintro i s X hi ⟨rfl, s1, s3, hall⟩
  refine wpB_ok ?_
  by_cases hlt : i < g.estates.length
  · obtain ⟨e, he⟩ := some_at hlt
    rw [first_step he] at hall
    have w1 := inc (i := i) (by omega)
    have i1 := fun K X => ia_Estate (K := K) (H := X) (t := true) (q := .i64) (n := (i : Int)) he (by omega)
    have i2 := fun K X => lds_Estate (K := K) (H := X) (t := true) (k := 0) (m := 5) he (by omega)
    simp at i1 i2
    have p1 := fun K X => r_CheckEstate (ok.es e (List.mem_of_getElem? he)) (H := X) K
    by_cases hv : chkE e = 0
    · rw [if_pos hv] at hall
      rw [hv] at p1
      simp [go_sem, s1, s3, hlt, len_sl, i1, i2, p1, w1, -Int.natCast_add]
      exact ⟨rfl, by simp [go_sem, s1], by simp [go_sem], hall⟩
    · rw [if_neg hv] at hall
      have hv' : (chkE e != 0) = true := bne_iff_ne.2 hv
      simp [go_sem, s1, s3, hlt, len_sl, i1, i2, p1, hv, hv', hall]
  · rw [drop_end (by omega)] at hall
    simp only [firstE] at hall
    rw [if_pos hall]
    simp [go_sem, s1, s3, hlt, len_sl]
    refine Bx_up g.estates.length (cgI2 g) ?_ ⟨rfl, by simp [go_sem, s1], by simp [go_sem], rfl⟩
    clear s1 s3 hlt hi i
    clear s
    rintro i s X hi ⟨rfl, s1, s5, hall⟩
    refine wpB_ok ?_
    by_cases hlt : i < g.estates.length
    · obtain ⟨e, he⟩ := some_at hlt
      have elc := (ok.es e (List.mem_of_getElem? he)).lc
      rw [chkHs_step he] at hall
      have w1 := inc (i := i) (by omega)
      have i1 := fun K X => ia_Estate (K := K) (H := X) (t := true) (q := .i64) (n := (i : Int)) he (by omega)
      have i2 := fun K X => ld_Estate (K := K) (H := X) (t := true) (k := 3) he rfl
      simp at i1 i2
      simp [go_sem, s1, s5, hlt, len_sl]
      refine Bx_up e.claims.length (cgI3 g e i) ?_ ⟨rfl, by simp [go_sem, s1], by simp [go_sem, s5], by simp [go_sem], rfl⟩
      clear s1 s5
      clear s
      rintro j s X hj ⟨rfl, s1, s5, s6, hall2⟩
      refine wpB_ok ?_
      by_cases hlt2 : j < e.claims.length
      · obtain ⟨c, hc⟩ := some_at hlt2
        rw [first_step hc] at hall2
        have w2 := inc (i := j) (by omega)
        have i3 := fun K X => ia_Claim (K := K) (H := X) (t := true) (q := .i64) (n := (j : Int)) hc (by omega)
        have i4 := fun K X => ld_Claim (K := K) (H := X) (t := true) (k := 0) hc rfl
        simp at i3 i4
        by_cases c1 : (g.estates.length : Int) ≤ c.holder
        · have hv : chkH g.estates.length i c = 19 := by unfold chkH; rw [if_pos (.inl c1)]
          rw [hv, if_neg (by omega)] at hall2
          rw [hall2, if_neg (by omega)] at hall
          simp [go_sem, s1, s5, s6, hlt2, len_sl, off_ep, i1, i2, i3, i4, c1, hall]
        by_cases c2 : c.holder = (i : Int)
        · have hv : chkH g.estates.length i c = 19 := by unfold chkH; rw [if_pos (.inr c2)]
          rw [hv, if_neg (by omega)] at hall2
          rw [hall2, if_neg (by omega)] at hall
          have c1' : ¬ g.estates.length ≤ i := by omega
          simp [go_sem, s1, s5, s6, hlt2, len_sl, off_ep, i1, i2, i3, i4, c2, c1', hall]
        · have hv : chkH g.estates.length i c = 0 := by unfold chkH; rw [if_neg (by omega)]
          rw [if_pos hv] at hall2
          have c2' : (c.holder == (i : Int)) = false := beq_eq_false_iff_ne.2 c2
          simp [go_sem, s1, s5, s6, hlt2, len_sl, off_ep, i1, i2, i3, i4, c1, c2', w2, -Int.natCast_add]
          exact ⟨rfl, by simp [go_sem, s1], by simp [go_sem, s5], by simp [go_sem], hall2⟩
      · rw [drop_end (by omega)] at hall2
        simp only [firstE] at hall2
        rw [if_pos hall2] at hall
        simp [go_sem, s1, s5, s6, hlt2, hlt, len_sl, off_ep, i1, i2, w1, -Int.natCast_add]
        exact ⟨rfl, by simp [go_sem, s1], by simp [go_sem], hall⟩
    · rw [drop_end (by omega)] at hall
      simp only [chkHs] at hall
      rw [if_pos hall]
      simp [go_sem, s1, s5, hlt, len_sl]
      refine Bx_up g.debts.length (cgI4 g) ?_ ⟨rfl, by simp [go_sem, s1], by simp [go_sem], rfl⟩
      clear s1 s5 hlt hi i hall
      clear s
      rintro i s X hi ⟨rfl, s1, s8, hall⟩
      refine wpB_ok ?_
      by_cases hlt : i < g.debts.length
      · obtain ⟨d, hd⟩ := some_at hlt
        rw [chkDs_step hd] at hall
        have w1 := inc (i := i) (by omega)
        have p1 := fun K X => r_debt hd ok (H := X) K
        by_cases hv : chkD g ((g.debts.take i).flatMap (·.legs)) d = 0
        · rw [if_pos hv] at hall
          rw [hv] at p1
          simp [go_sem, s1, s8, hlt, len_sl, p1, w1, -Int.natCast_add]
          exact ⟨rfl, by simp [go_sem, s1], by simp [go_sem], hall⟩
        · rw [if_neg hv] at hall
          have hv' : (chkD g ((g.debts.take i).flatMap (·.legs)) d != 0) = true := bne_iff_ne.2 hv
          simp [go_sem, s1, s8, hlt, len_sl, p1, hv', hall]
      · rw [drop_end (by omega)] at hall
        simp only [chkDs] at hall
        simp [go_sem, s1, s8, hlt, len_sl, hall]
end Go.Proofs.Vm
/-! slices.Concat of lists of parts; slices.ContainsFunc over them. -/
namespace Go.Proofs.Vm
open Go Go.Proofs.Na

def flatP (l : List Tier) : List Part := l.flatMap (·.parts)
def partsV (l : List Part) : V := if l = [] then .nils else sl false l
theorem sum_take {l : List Tier} {i : Nat} {t : Tier} (h : l[i]? = some t) : (flatP (l.take (i + 1))) = flatP (l.take i) ++ t.parts := by
  unfold flatP
  rw [List.take_add_one, h, List.flatMap_append]; simp
theorem len_take (l : List Tier) (i : Nat) : (flatP (l.take i)).length ≤ (flatP l).length := by
  unfold flatP
  conv => rhs; rw [← List.take_append_drop i l, List.flatMap_append, List.length_append]
  omega

/-- The cells of parts. -/
def pcs (l : List Part) : List V := l.flatMap Enc.cells
theorem pcs_len (l : List Part) : (pcs l).length = l.length * 5 := flat_len l
theorem pcs_append (a b : List Part) : pcs (a ++ b) = pcs a ++ pcs b := by unfold pcs; rw [List.flatMap_append]
theorem pcs_leaf (l : List Part) : (pcs l).all V.leaf = true := by
  induction l with
  | nil => rfl
  | cons p l ih => unfold pcs at *; rw [List.flatMap_cons, List.all_append, ih]; rfl
theorem pcs_lit (l : List Part) : (pcs l).all isLit = true := by
  induction l with
  | nil => rfl
  | cons p l ih => unfold pcs at *; rw [List.flatMap_cons, List.all_append, ih]; rfl

def ccI1 (l : List Tier) (i : Nat) (s : Nat → V) (X : List O) : Prop :=
  X = [] ∧ s 0 = sl true l ∧ s 9 = sl true l ∧ s 10 = .int (l.length : Int) ∧ s 11 = .int (i : Int) ∧ s 3 = .int ((flatP (l.take i)).length : Int)
def ccI2 (l : List Tier) (i : Nat) (s : Nat → V) (X : List O) : Prop :=
  s 25 = sl true l ∧ s 26 = .int (l.length : Int) ∧ s 27 = .int (i : Int) ∧ s 6 = .nils
def ccI3 (l : List Tier) (i : Nat) (s : Nat → V) (X : List O) : Prop :=
  s 25 = sl true l ∧ s 26 = .int (l.length : Int) ∧ s 27 = .int (i : Int) ∧ ∃ h L, s 6 = .osl h 0 (flatP (l.take i)).length ∧ X[h]? = some (.cells L ty_api_Part 5) ∧ (flatP (l.take i)).length * 5 ≤ L.length ∧ L.take ((flatP (l.take i)).length * 5) = pcs (flatP (l.take i))
theorem c_Grow {n : Nat} (hn : n * 56 ≤ 140737488355328) {H : List O} (K : V → List O → Prop) : Fx D0 fn_slices_Grow_Sapi_Part_api_Part [.nils, .int (n : Int)] H K =
    (if n = 0 then K .nils H else K (.osl H.length 0 0) (H ++ [.cells ((List.replicate n [.int 0, .lit (.bool false), .lit (.bool false), st [], st []]).flatten) ty_api_Part 5])) := by
  have main : Fx D0 fn_slices_Grow_Sapi_Part_api_Part [.nils, .int (n : Int)] H fun x X => x = (if n = 0 then .nils else .osl H.length 0 0) ∧ X = if n = 0 then H else H ++ [.cells ((List.replicate n [.int 0, .lit (.bool false), .lit (.bool false), st [], st []]).flatten) ty_api_Part 5] := by
    refine Fx_of d_slices_Grow_Sapi_Part_api_Part ?_
    have e1 : ¬ (n : Int) < 0 := by omega
    have w1 : IntKind.i64.wrap (n : Int) = (n : Int) := by rw [wi (by omega) (by omega)]
    have w0 : IntKind.i64.wrap 0 = 0 := rfl
    have cp : ev1 (.cap (.c .nils)) H = some (.int 0, H) := rfl
    by_cases h0 : n = 0
    · subst h0
      simp [go_sem, F_slices_Grow_Sapi_Part_api_Part, cp, w0]
    · have hp : 0 < (n : Int) := by omega
      have s1 : ∀ K, slcK 5 .nils none (some (.lit (.int .i64 0))) none H K = K .nils H := fun K => by simp [slcK, wpI, evI, lenV, Opd.ev, optI, wpO]
      have hb : (n : Int) * 56 ≤ 140737488355328 := by omega
      have s2 : ev1 (.appz ty_api_Part 5 56 [.int 0, .lit (.bool false), .lit (.bool false), st [], st []] (.c .nils) (.c (.int (n : Int)))) H = some (.osl H.length 0 n, H ++ [.cells ((List.replicate n [.int 0, .lit (.bool false), .lit (.bool false), st [], st []]).flatten) ty_api_Part 5]) := by
        simp [ev1, evI, Opd.ev, h0, hb]
      have s3 : ∀ K X, slcK 5 (.osl H.length 0 n) none (some (.lit (.int .i64 0))) none X K = K (.osl H.length 0 0) X := fun K X => by simp [slcK, wpI, evI, lenV, Opd.ev, optI, wpO]
      have e0 : ({ data := #[] } : ByteArray) = ⟨(#[] : Array UInt8)⟩ := rfl
      simp only [st, List.toArray] at s2 ⊢
      simp [go_sem, F_slices_Grow_Sapi_Part_api_Part, cp, w0, w1, e1, hp, s1, s2, s3, h0]
  rw [Fx_is main]
  split <;> rfl
theorem c_Concat {l : List Tier} (hl : l.length < 4611686018427387904) (hn : (flatP l).length ≤ 1000000000000) {H : List O} (K : V → List O → Prop) :
    Fx D0 fn_slices_Concat_Sapi_Part_api_Part [sl true l] H K = K (partsV (flatP l)) H := by
  refine Fx_is ?_ K
  refine Fx_ofp (as := [sl true l]) d_slices_Concat_Sapi_Part_api_Part rfl ?_
  simp [go_sem, F_slices_Concat_Sapi_Part_api_Part, len_sl]
  refine Bx_up l.length (ccI1 l) ?_ ⟨rfl, rfl, rfl, rfl, rfl, rfl⟩
  rintro i s X hi ⟨rfl, s0, s9, s10, s11, s3⟩
  refine wpB_ok ?_
  by_cases hlt : i < l.length
  · obtain ⟨t, ht⟩ := some_at hlt
    have w1 := inc (i := i) (by omega)
    have i1 := fun K X => ia_Tier (K := K) (H := X) (t := true) (q := .i64) (n := (i : Int)) ht (by omega)
    have i2 := fun K X => ld_Tier (K := K) (H := X) (t := true) (k := 0) ht rfl
    simp at i1 i2
    have h3 := sum_take ht
    have h4 := len_take l (i + 1)
    rw [h3, List.length_append] at h4
    have w2 : IntKind.i64.wrap (((flatP (l.take i)).length : Int) + (t.parts.length : Int)) = ((flatP (l.take (i + 1))).length : Int) := by rw [h3, wi (by omega) (by omega)]; simp
    have e1 : ¬ ((flatP (l.take (i + 1))).length : Int) < 0 := by omega
    simp [go_sem, s0, s9, s10, s11, s3, hlt, i1, i2, len_sl, w1, w2, e1, -Int.natCast_add]
    exact ⟨rfl, by simp [go_sem, s0], by simp [go_sem, s9], by simp [go_sem, s10], by simp [go_sem], by simp [go_sem]⟩
  · have e : l.take i = l := List.take_of_length_le (by omega)
    rw [e] at s3
    have p1 := fun K => c_Grow (n := (flatP l).length) (by omega) (H := []) K
    by_cases h0 : flatP l = []
    · rw [h0] at p1 s3
      simp at p1 s3
      unfold partsV
      rw [if_pos h0]
      simp [go_sem, s0, s9, s10, s11, s3, hlt, p1, len_sl]
      refine Bx_up l.length (ccI2 l) ?_ ⟨by simp [go_sem], by simp [go_sem], by simp [go_sem], by simp [go_sem]⟩
      clear s0 s9 s10 s11 s3 hlt hi i e
      clear s
      rintro i s X hi ⟨s25, s26, s27, s6⟩
      refine wpB_ok ?_
      by_cases hlt : i < l.length
      · obtain ⟨t, ht⟩ := some_at hlt
        have w1 := inc (i := i) (by omega)
        have i1 := fun K X => ia_Tier (K := K) (H := X) (t := true) (q := .i64) (n := (i : Int)) ht (by omega)
        have i2 := fun K X => ld_Tier (K := K) (H := X) (t := true) (k := 0) ht rfl
        simp at i1 i2
        have htp : t.parts = [] := by
          unfold flatP at h0
          rw [List.flatMap_eq_nil_iff] at h0
          exact h0 t (List.mem_of_getElem? ht)
        have a1 : ∀ K X, appK ty_api_Part 5 56 .nils (sl true t.parts) X K = K .nils X := fun K X => by
          rw [htp]
          simp [appK, wpI, evI, Opd.ev, sl, sliceV, wpO]
          exact ⟨fun ⟨ys, m, ⟨_, h2⟩, _, h, _⟩ => h h2.symm, fun h => ⟨[], 0, ⟨rfl, rfl⟩, by simp, fun _ => h, fun h => absurd rfl h⟩⟩
        simp [go_sem, s25, s26, s27, s6, hlt, i1, i2, a1, w1, -Int.natCast_add]
        exact ⟨by simp [go_sem, s25], by simp [go_sem, s26], by simp [go_sem], by simp [go_sem]⟩
      · simp [go_sem, s25, s26, s27, s6, hlt]
    · have hne : ¬ (flatP l).length = 0 := fun e => h0 (List.length_eq_zero_iff.1 e)
      unfold partsV
      rw [if_neg h0]
      simp [hne] at p1
      simp [go_sem, s0, s9, s10, s11, s3, hlt, len_sl]
      refine (p1 _).2 ?_
      simp [go_sem, s0, s9, s10, s11, s3, hlt, len_sl]
      refine Bx_up l.length (ccI3 l) ?_ ⟨by simp [go_sem], by simp [go_sem], by simp [go_sem], 0, _, by simp [go_sem, flatP], rfl, by simp [flatP], by simp [flatP, pcs]⟩
      clear s0 s9 s10 s11 s3 hlt hi i e
      clear s
      rintro i s X hi ⟨s25, s26, s27, h, L, s6, hX, hL, hL2⟩
      refine wpB_ok ?_
      by_cases hlt : i < l.length
      · obtain ⟨t, ht⟩ := some_at hlt
        have w1 := inc (i := i) (by omega)
        have i1 := fun K X => ia_Tier (K := K) (H := X) (t := true) (q := .i64) (n := (i : Int)) ht (by omega)
        have i2 := fun K X => ld_Tier (K := K) (H := X) (t := true) (k := 0) ht rfl
        simp at i1 i2
        have h3 := sum_take ht
        have h4 := len_take l (i + 1)
        rw [h3, List.length_append] at h4
        have a1 := fun K => app_own (K := K) (bytes := 56) (n := (flatP (l.take i)).length) (show sliceV X 5 (sl true t.parts) = some (pcs t.parts, t.parts.length) from slice_sl) hX hL (by omega) (pcs_leaf t.parts)
        have a1' : ∀ K, appK ty_api_Part 5 56 (.osl h 0 (flatP (l.take i)).length) (sl true t.parts) X K = K (.osl X.length 0 (flatP (l.take (i + 1))).length) (X.set h .dead ++ [.cells (pcs (flatP (l.take (i + 1)))) ty_api_Part 5]) := fun K => by
          rw [a1, h3, List.length_append, pcs_append, ← hL2]
        simp [go_sem, s25, s26, s27, s6, hlt, i1, i2, a1', w1, -Int.natCast_add]
        refine ⟨by simp [go_sem, s25], by simp [go_sem, s26], by simp [go_sem], X.length, pcs (flatP (l.take (i + 1))), by simp [go_sem], ?_, ?_, ?_⟩
        · rw [List.getElem?_append_right (by simp)]; simp
        · rw [pcs_len]; exact Nat.le_refl _
        · rw [List.take_of_length_le (by rw [pcs_len]; exact Nat.le_refl _)]
      · have e : l.take i = l := List.take_of_length_le (by omega)
        rw [e] at s6 hL hL2
        have hout := out_own (H := X) (h := h) (off := 0) (L := L) (sz := 5) (len := (flatP l).length) hX (by omega) (by rw [List.drop_zero, hL2]; exact pcs_lit _)
        rw [List.drop_zero, hL2] at hout
        simp [go_sem, s25, s26, s27, s6, hlt, hout]
        rfl
end Go.Proofs.Vm
