/- Groups among the arguments. -/
import Derived.Shelf.Small.Strs
import Derived.Shelf.Sort.Plain
import Derived.Shelf.Slices.In.SortNone
import Derived.Test.YtdaiaafehfbdfaaGreatDoorProg
import Derived.Test.YtdaiaafehfbdfaaGreatDoorRows
import Derived.WalkKit
import Derived.ProofKit
import Derived.OpenShut
import Derived.Deep.DeepHandedRow
import Derived.Test.YtdaiaafehfbdfaaGreatDoorA6
set_option maxRecDepth 4000
set_option linter.unusedVariables false
set_option linter.unusedSimpArgs false
set_option linter.unnecessarySimpa false
set_option linter.unusedSectionVars false
/-! Two functions of the library, as contracts of this program: strings.Compare, slices.Sort (written by the tool of the kit). -/
namespace Go.Proofs
open Go.Shelf
def Tryz.lays106_ren : Go.Shelf.Ren := ⟨fun | 106 => 165 | 213 => 205 | 265 => 236 | n => n, fun | 9 => 9 | 3 => 3 | n => n, fun | n => n⟩
theorem Tryz.lays106 : Go.Proofs.Lays.n106 Tryz.prog Tryz.lays106_ren := {
  mixed := by kernel_rfl
  f106 := Tryz.func165.trans (congrArg some (by kernel_rfl))
  f213 := Tryz.func205.trans (congrArg some (by kernel_rfl))
  f265 := Tryz.func236.trans (congrArg some (by kernel_rfl))
  t3 := Tryz.underlying3
  a3 := Tryz.isAgg3
  z3 := Tryz.sizeOf3
  v3 := Tryz.zeroValue3
  t9 := Tryz.underlying9
  a9 := Tryz.isAgg9
  z9 := Tryz.sizeOf9
  v9 := Tryz.zeroValue9 }
open Go.RowKit in
/-- strings.Compare: "Compare returns an integer comparing two strings lexicographically. The result will be 0 if a == b, -1 if a < b, and +1 if a > b.": IT RETURNS 'Lib.compareBytes a b'; the world is as it was. (LAID: no walk: one application.) -/
theorem Tryz.strings_Compare (a b : ByteArray) (w : World) :
    Calls Tryz.prog 165 #[.string a, .string b] w fun e w' => e = .returned (.int .i64 (Lib.compareBytes a.data.toList b.data.toList)) ∧ w' = w := Any.strings_Compare Tryz.lays106 a b w
def Tryz.lays189_ren : Go.Shelf.Ren := ⟨fun | 189 => 156 | 125 => 203 | 257 => 202 | 128 => 230 | 129 => 231 | 294 => 221 | 295 => 222 | 296 => 223 | 297 => 224 | 298 => 225 | 299 => 226 | 216 => 227 | 300 => 228 | 301 => 229 | 328 => 247 | 329 => 248 | 330 => 249 | 331 => 250 | 332 => 251 | 215 => 252 | 343 => 256 | n => n, fun | 28 => 119 | 3 => 3 | 46 => 80 | 0 => 0 | 51 => 226 | 53 => 209 | 4 => 4 | 183 => 277 | 182 => 276 | 131 => 282 | 5 => 5 | 9 => 9 | 218 => 301 | 222 => 305 | 228 => 311 | 229 => 312 | n => n, fun | n => n⟩
theorem Tryz.lays189 : Go.Proofs.Lays.n189 Tryz.prog Tryz.lays189_ren := {
  mixed := by kernel_rfl
  f125 := Tryz.func203.trans (congrArg some (by kernel_rfl))
  f128 := Tryz.func230.trans (congrArg some (by kernel_rfl))
  f129 := Tryz.func231.trans (congrArg some (by kernel_rfl))
  f189 := Tryz.func156.trans (congrArg some (by kernel_rfl))
  f215 := Tryz.func252.trans (congrArg some (by kernel_rfl))
  f216 := Tryz.func227.trans (congrArg some (by kernel_rfl))
  f257 := Tryz.func202.trans (congrArg some (by kernel_rfl))
  f294 := Tryz.func221.trans (congrArg some (by kernel_rfl))
  f295 := Tryz.func222.trans (congrArg some (by kernel_rfl))
  f296 := Tryz.func223.trans (congrArg some (by kernel_rfl))
  f297 := Tryz.func224.trans (congrArg some (by kernel_rfl))
  f298 := Tryz.func225.trans (congrArg some (by kernel_rfl))
  f299 := Tryz.func226.trans (congrArg some (by kernel_rfl))
  f300 := Tryz.func228.trans (congrArg some (by kernel_rfl))
  f301 := Tryz.func229.trans (congrArg some (by kernel_rfl))
  f328 := Tryz.func247.trans (congrArg some (by kernel_rfl))
  f329 := Tryz.func248.trans (congrArg some (by kernel_rfl))
  f330 := Tryz.func249.trans (congrArg some (by kernel_rfl))
  f331 := Tryz.func250.trans (congrArg some (by kernel_rfl))
  f332 := Tryz.func251.trans (congrArg some (by kernel_rfl))
  f343 := Tryz.func256.trans (congrArg some (by kernel_rfl))
  t0 := Tryz.underlying0
  a0 := Tryz.isAgg0
  z0 := Tryz.sizeOf0
  v0 := Tryz.zeroValue0
  t3 := Tryz.underlying3
  a3 := Tryz.isAgg3
  z3 := Tryz.sizeOf3
  v3 := Tryz.zeroValue3
  t4 := Tryz.underlying4
  a4 := Tryz.isAgg4
  z4 := Tryz.sizeOf4
  v4 := Tryz.zeroValue4
  t5 := Tryz.underlying5
  a5 := Tryz.isAgg5
  z5 := Tryz.sizeOf5
  v5 := Tryz.zeroValue5
  t9 := Tryz.underlying9
  a9 := Tryz.isAgg9
  z9 := Tryz.sizeOf9
  v9 := Tryz.zeroValue9
  t28 := Tryz.underlying119
  a28 := Tryz.isAgg119
  z28 := Tryz.sizeOf119
  v28 := Tryz.zeroValue119
  t46 := Tryz.underlying80
  a46 := Tryz.isAgg80
  z46 := Tryz.sizeOf80
  v46 := Tryz.zeroValue80
  t51 := Tryz.underlying226
  a51 := Tryz.isAgg226
  z51 := Tryz.sizeOf226
  v51 := Tryz.zeroValue226
  t53 := Tryz.underlying209
  a53 := Tryz.isAgg209
  z53 := Tryz.sizeOf209
  v53 := Tryz.zeroValue209
  t131 := Tryz.underlying282
  a131 := Tryz.isAgg282
  z131 := Tryz.sizeOf282
  v131 := Tryz.zeroValue282
  t182 := Tryz.underlying276
  a182 := Tryz.isAgg276
  z182 := Tryz.sizeOf276
  v182 := Tryz.zeroValue276
  t183 := Tryz.underlying277
  a183 := Tryz.isAgg277
  z183 := Tryz.sizeOf277
  v183 := Tryz.zeroValue277
  t218 := Tryz.underlying301
  a218 := Tryz.isAgg301
  z218 := Tryz.sizeOf301
  v218 := Tryz.zeroValue301
  t222 := Tryz.underlying305
  a222 := Tryz.isAgg305
  z222 := Tryz.sizeOf305
  v222 := Tryz.zeroValue305
  t228 := Tryz.underlying311
  a228 := Tryz.isAgg311
  z228 := Tryz.sizeOf311
  v228 := Tryz.zeroValue311
  t229 := Tryz.underlying312
  a229 := Tryz.isAgg312
  z229 := Tryz.sizeOf312
  v229 := Tryz.zeroValue312 }
open Go.Sort Go.RowKit in
theorem Tryz.slices_Sort_int (blk off cap : Nat) (zs : List Int) (w : World) (hH : Holds (Value.int .i64) w blk off zs.toArray) (hblk : blk < w.heap.size) (hsz : zs.length < 4611686018427387904) :
    Calls Tryz.prog 156 #[.slice (some ⟨blk, off, none⟩) zs.length cap] w fun e w' =>
      e = .returned (.tuple #[]) ∧ ∃ n os, w' = grow (putRow (Value.int .i64) (Sort.ahead w n) blk off (zs.mergeSort fun x y => decide (x ≤ y)).toArray) os := Any.slices_Sort_int Tryz.lays189 blk off cap zs w hH hblk hsz
open Go.RowKit Go.Sort in
/-- .. and plain. (LAID: no walk: one application.) -/
theorem Tryz.slices_Sort_int_none (p : Option Addr) (cap : Nat) (w : World) :
    Calls Tryz.prog 156 #[.slice p 0 cap] w fun e w' => e = .returned (.tuple #[]) ∧ w' = w := Any.slices_Sort_int_none Tryz.lays189 p cap w
end Go.Proofs
/-! The table stands for the program. -/
namespace Go.Proofs.Vm
open Go Go.Proofs Go.Sort

theorem at_code {f : FuncId} {d : Def} : ∀ {l : List (Nat × Bool × Fn)}, at_ f l = some d → ∃ p F, d = .code p F ∧ (f, p, F) ∈ l
  | [], h => by cases h
  | (k, p, F) :: l, h => by
    unfold at_ at h
    by_cases e : f = k
    · rw [if_pos e] at h
      cases h
      exact ⟨p, F, rfl, by rw [e]; exact List.mem_cons_self⟩
    · rw [if_neg e] at h
      obtain ⟨p', F', h1, h2⟩ := at_code h
      exact ⟨p', F', h1, List.mem_cons_of_mem _ h2⟩

section
variable {n : Nat} {Lc : Nat → Loc} {m0 m1 : Mem} {H : List O} {w : World}
theorem rel_two {a b : V} {xs : Array Value} (h : Rel n Lc m0 m1 [a, b] xs) : ∃ x y, xs = #[x, y] ∧ VR n Lc m0 m1 a x ∧ VR n Lc m0 m1 b y := by
  obtain ⟨h1, h2⟩ := h
  obtain ⟨l⟩ := xs
  match l, h1 with
  | [x, y], _ => exact ⟨x, y, rfl, h2 0 (by simp) (by simp), h2 1 (by simp) (by simp)⟩
theorem rel_one {a : V} {xs : Array Value} (h : Rel n Lc m0 m1 [a] xs) : ∃ x, xs = #[x] ∧ VR n Lc m0 m1 a x := by
  obtain ⟨h1, h2⟩ := h
  obtain ⟨l⟩ := xs
  match l, h1 with
  | [x], _ => exact ⟨x, rfl, h2 0 (by simp) (by simp)⟩
theorem cmp_ok : ∀ vs H r H', cmpE vs H = some (r, H') → CallAt Tryz.prog fn_strings_Compare vs H r H' := by
  intro vs H r H' h
  unfold cmpE at h
  split at h
  · rename_i X a b
    cases h
    refine ⟨e_strings_Compare, fun g hm xs hr => ?_⟩
    obtain ⟨x, y, rfl, h1, h2⟩ := rel_two hr
    have e1 := h1.lit_inv
    have e2 := h2.lit_inv
    subst e1; subst e2
    refine (Tryz.strings_Compare a b g.w).mono fun e w' ⟨he, hw⟩ => ?_
    subst he; subst hw
    exact ⟨g.n, g.L, g.m0, g.m1, hm, .lit_, .refl _ _ _, .refl _ _ _⟩
  · cases h
/-- New blocks behind all. -/
theorem MemR.more (hm : MemR n Lc m0 m1 H w) {w' : World} (hs : w.heap.size ≤ w'.heap.size) (h : ∀ b, b < w.heap.size → w'.heap[b]? = w.heap[b]?) : MemR n Lc m0 m1 H w' where
  len := hm.len
  own k l t z hk := by
    obtain ⟨e1, e2, arr, e3, e4⟩ := hm.own k l t z hk
    exact ⟨e1, e2, arr, by rw [h _ (hm.apart k (hm.live k (by rw [hk]; trivial))).2]; exact e3, e4⟩
  map k es c hk := by rw [h _ (hm.apart k (hm.live k (by rw [hk]; trivial))).2]; exact hm.map k es c hk
  live := hm.live
  hole := hm.hole
  inj := hm.inj
  apart k hk := ⟨(hm.apart k hk).1, Nat.lt_of_lt_of_le (hm.apart k hk).2 hs⟩
  sub := hm.sub
  frn b o hb := by
    have := hm.frn b o hb
    have hlt : b < w.heap.size := by
      rcases Nat.lt_or_ge b w.heap.size with h1 | h1
      · exact h1
      · rw [Array.getElem?_eq_none h1] at this; cases this
    rw [h b hlt]; exact this
theorem Stp.more (n : Nat) (Lc : Nat → Loc) (w : World) {w' : World} (h1 : w'.os = w.os) (h2 : w'.tape = w.tape) (h3 : w'.output = w.output) (hs : w.heap.size ≤ w'.heap.size) (h : ∀ b, b < w.heap.size → w'.heap[b]? = w.heap[b]?) : Stp n Lc w n Lc w' :=
  ⟨h1, h2, h3, hs, Nat.le_refl _, fun _ _ => rfl, fun b hb _ => h b hb, fun _ h1 => .inl h1⟩
theorem intsV_some : ∀ {l : List V} {zs : List Int}, intsV l = some zs → l = zs.map fun z => .lit (.int .i64 z)
  | [], zs, h => by cases h; rfl
  | v :: l, zs, h => by
    unfold intsV at h
    split at h
    · rename_i h0; cases h0
    · rename_i a l' h0
      cases h0
      obtain ⟨zs', h1, rfl⟩ := Option.map_eq_some_iff.1 h
      rw [List.map_cons, ← intsV_some h1]
    · cases h
theorem getElem!_at {l : List Int} {j : Nat} (h : j < l.length) : l.toArray[j]! = l[j] := by
  rw [getElem!_pos l.toArray j (by simpa using h)]; simp
theorem sort_ok : ∀ vs H r H', sortE vs H = some (r, H') → CallAt Tryz.prog fn_slices_Sort_Sint_int vs H r H' := by
  intro vs H r H' h
  unfold sortE at h
  split at h
  · rename_i X h' off k
    split at h
    · rename_i l t sz hX
      split at h
      · rename_i hc
        obtain ⟨rfl, hfit, h0, hbig⟩ := hc
        split at h
        · rename_i zs hz
          cases h
          refine ⟨e_slices_Sort_Sint_int, fun g hm xs hr => ?_⟩
          obtain ⟨x, rfl, hv⟩ := rel_one hr
          obtain ⟨cap, rfl, hown, hlc, hcap⟩ := hv.osl_inv
          obtain ⟨o1, o2, arr, o3, o4, o5, o6⟩ := hm.own h' l t 1 hX
          have hb := (hm.apart h' hown).2
          have hzs := intsV_some hz
          have hlen : zs.length = k := by
            have := congrArg List.length hzs
            rw [List.length_map, List.length_take, List.length_drop] at this; omega
          have hcell : ∀ j (hj : j < zs.length), arr[off + j]? = some (.int .i64 zs[j]) := by
            intro j hj
            have e1 : l[off + j]? = some (.lit (.int .i64 zs[j])) := by
              have := congrArg (·[j]?) hzs
              simp only [List.getElem?_map] at this
              rw [List.getElem?_take, if_pos (by omega), List.getElem?_drop, List.getElem?_eq_getElem hj] at this
              exact this
            have hj1 : off + j < l.length := by omega
            rw [List.getElem?_eq_getElem hj1] at e1
            have e1 := Option.some.inj e1
            have h6 := (o6 (off + j) hj1 (by omega)).2
            rw [e1] at h6
            rw [Array.getElem?_eq_getElem (by omega), h6.lit_inv]
          have hH : Holds (Value.int .i64) g.w (g.L h').blk off zs.toArray := by
            intro j hj
            have hj' : j < zs.length := by simpa using hj
            refine ⟨?_, by simp [World.frozen?, o3]⟩
            rw [getElem!_at hj']
            simp only [World.cell?, o3]
            simpa using hcell j hj'
          have hcall := Tryz.slices_Sort_int (g.L h').blk off cap zs g.w hH hb (by omega)
          rw [hlen] at hcall
          refine hcall.mono fun e w' ⟨he, m, os, hw⟩ => ?_
          subst he
          generalize hs : (zs.mergeSort fun x y => decide (x ≤ y)) = ss at *
          have hsl : ss.length = k := by rw [← hs, List.length_mergeSort, hlen]
          have hp : ∀ b, b ≠ (g.L h').blk → (putRow (Value.int .i64) (Sort.ahead g.w m) (g.L h').blk off ss.toArray).heap[b]? = g.w.heap[b]? := by
            intro b hb
            unfold putRow mapBlock
            simp only [Array.getElem?_modify]
            rw [if_neg (fun e => hb e.symm)]; rfl
          have hp2 : (putRow (Value.int .i64) (Sort.ahead g.w m) (g.L h').blk off ss.toArray).heap[(g.L h').blk]? = some (.cells (putCells (Value.int .i64) off ss.toArray arr) t (0, 0)) := by
            unfold putRow mapBlock
            simp only [Array.getElem?_modify, if_true]
            have : (Sort.ahead g.w m).heap[(g.L h').blk]? = some (.cells arr t (0, 0)) := o3
            rw [this]; rfl
          have hsz2 : (putCells (Value.int .i64) off ss.toArray arr).size = arr.size := by simp [putCells]
          obtain ⟨a1, a2⟩ := hm.store (w' := putRow (Value.int .i64) (Sort.ahead g.w m) (g.L h').blk off ss.toArray) (l' := l.take off ++ ss.map (fun z => V.lit (.int .i64 z)) ++ l.drop (off + k)) hX rfl rfl rfl (by simp) hp2 hp (by rw [hsz2, o4]) (by rw [hsz2]; simp; omega) (by
            intro j hj hj'
            rw [hsz2] at hj'
            have hj2 : j < l.length := by simp at hj; omega
            have hmi : (putCells (Value.int .i64) off ss.toArray arr)[j]'(by rw [hsz2]; exact hj') = if off ≤ j ∧ j < off + ss.toArray.size then Value.int .i64 ss.toArray[j - off]! else arr[j] := by
              simp [putCells]
            rw [hmi]
            by_cases j1 : off ≤ j ∧ j < off + k
            · rw [if_pos (by simpa [hsl] using j1), getElem!_at (by omega)]
              have q1 : (l.take off ++ ss.map (fun z => V.lit (.int .i64 z)) ++ l.drop (off + k))[j] = .lit (.int .i64 (ss[j - off]'(by omega))) := by
                rw [List.getElem_append_left (by simp; omega), List.getElem_append_right (by simp; omega), List.getElem_map]
                congr 3; simp; omega
              rw [q1]
              exact ⟨rfl, .lit_⟩
            · rw [if_neg (by simpa [hsl] using j1)]
              have q1 : (l.take off ++ ss.map (fun z => V.lit (.int .i64 z)) ++ l.drop (off + k))[j] = l[j] := by
                by_cases j2 : j < off
                · rw [List.getElem_append_left (by simp; omega), List.getElem_append_left (by simp; omega)]; simp
                · rw [List.getElem_append_right (by simp; omega), List.getElem_drop]
                  congr 1; simp; omega
              rw [q1]; exact o6 j hj2 hj')
          have hb1 : ∀ b, b < (putRow (Value.int .i64) (Sort.ahead g.w m) (g.L h').blk off ss.toArray).heap.size → (grow (putRow (Value.int .i64) (Sort.ahead g.w m) (g.L h').blk off ss.toArray) os).heap[b]? = (putRow (Value.int .i64) (Sort.ahead g.w m) (g.L h').blk off ss.toArray).heap[b]? := fun b hb => heap_grow_old _ _ hb
          have hb2 : (putRow (Value.int .i64) (Sort.ahead g.w m) (g.L h').blk off ss.toArray).heap.size ≤ (grow (putRow (Value.int .i64) (Sort.ahead g.w m) (g.L h').blk off ss.toArray) os).heap.size := by rw [size_grow]; omega
          subst hw
          exact ⟨g.n, g.L, g.m0, g.m1, a1.more hb2 hb1, .tup [] #[] rfl (fun j h => by simp at h), a2.trans (Stp.more _ _ _ rfl rfl rfl hb2 hb1), .refl _ _ _⟩
        · cases h
      · cases h
    · cases h
  · rename_i X
    cases h
    refine ⟨e_slices_Sort_Sint_int, fun g hm xs hr => ?_⟩
    obtain ⟨x, rfl, hv⟩ := rel_one hr
    have e1 := hv.lit_inv
    subst e1
    refine (Tryz.slices_Sort_int_none none 0 g.w).mono fun e w' ⟨he, hw⟩ => ?_
    subst he; subst hw
    exact ⟨g.n, g.L, g.m0, g.m1, hm, .tup [] #[] rfl (fun j h => by simp at h), .refl _ _ _, .refl _ _ _⟩
  · cases h
end
theorem ext_inv {f : FuncId} {e : List V → List O → Option (V × List O)} (h : D0 f = some (.ext e)) : (f = fn_strings_Compare ∧ e = cmpE) ∨ (f = fn_slices_Sort_Sint_int ∧ e = sortE) := by
  unfold D0 at h
  split at h
  · cases h; right; exact ⟨‹_›, rfl⟩
  · split at h
    · cases h; left; exact ⟨‹_›, rfl⟩
    · obtain ⟨p, F, h1, _⟩ := at_code h
      cases h1
theorem known : Known Tryz.prog pu D0 where
  mixed := by kernel_rfl
  code f p F h := by
    unfold D0 at h
    split at h
    · cases h
    · split at h
      · cases h
      · obtain ⟨p', F', h1, h2⟩ := at_code h
        cases h1
        exact k_all _ h2
  ext f e h := by
    rcases ext_inv h with ⟨rfl, rfl⟩ | ⟨rfl, rfl⟩
    · exact cmp_ok
    · exact sort_ok
  pure f h := by
    unfold pu at h
    rcases p_all f (by simpa using h) with h | h
    · exact .inl h
    · refine .inr ⟨cmpE, h, fun vs H r H' hv => ?_⟩
      unfold cmpE at hv
      split at hv
      · cases hv
        exact ⟨rfl, fun H2 _ => rfl⟩
      · cases hv
end Go.Proofs.Vm
/-! From what the abstract machine computes to the statement: what holds of every law. -/
namespace Go.Proofs.Vm
open Go Go.ChangeShapes Go.WideShapes Go.ChangeAt Go.RowKit

/-- Arguments, as the abstract machine sees them. -/
def Seen (w : World) (vs : List V) (args : Array Value) : Prop := vs.length = args.size ∧ ∀ j (h : j < vs.length) (h' : j < args.size), FR noMem (memOf w) true vs[j] args[j]
theorem law_calls {f : FuncId} {W : World} {args : Array Value} {vs : List V} (hs : Seen W vs args) (hrun : ∀ K, Fx D0 f vs [] K = K (.bool true) []) :
    Calls Tryz.prog f args W fun e W' => e = .returned (.bool true) ∧ Below W.heap.size W W' := by
  have h1 : Fx D0 f vs [] fun x X => x = .bool true ∧ X = [] := by rw [hrun]; exact ⟨rfl, rfl⟩
  obtain ⟨n, ⟨r, X⟩, h2, h3, h4⟩ := h1
  simp only at h3 h4
  subst h3; subst h4
  obtain ⟨_, hc⟩ := run_ok known n _ _ _ _ _ h2
  have hm : MemR 0 (fun _ => ⟨0, 0, 0⟩) noMem (memOf W) [] W := by
    refine ⟨rfl, fun h l t z hh => by simp at hh, fun h es c hh => by simp at hh, fun h hh => by simp [Liv] at hh, fun h hh => by simp at hh, fun h h' hh => by simp [Liv] at hh, fun h hh => absurd hh.1 (by omega), fun b o hb => (by cases hb), fun b o hb => hb⟩
  refine (hc ⟨0, _, noMem, memOf W, W⟩ hm args ⟨hs.1, fun j h h' => .fr (hs.2 j h h')⟩).mono fun e W' hp => ?_
  cases e with
  | returned v =>
    obtain ⟨n', L', m0, m1, _, hv, hst, _⟩ := hp
    have := hv.lit_inv
    subst this
    exact ⟨rfl, hst.os, hst.tape, hst.output, hst.size, fun k hk => hst.keep k hk (fun h hh => absurd hh.1 (by simp only; omega))⟩
  | _ => exact hp.elim

section
variable {H : Type} {enc : TypeId × Value → H} {P : Program}
theorem trodAll_stays (hl : laidOutB P = true) {W W' : World} {sp' : Nat → Bool} : ∀ {ts : List TypeId} {vs : List Value} {ds : List (DataW H)} {ps : List MemPlace}, (∀ t ∈ ts, P.readableRec t = true ∧ t < P.types.size) →
    DataW.TrodAll enc P W 0 (fun _ => true) true ts vs ds ps → (∀ p ∈ ps, W.sameAt W' p) → (∀ p ∈ ps, sp' p.block = true) → DataW.TrodAll enc P W' 0 sp' true ts vs ds ps
  | [], _, _, _, _, h, _, _ => by
    obtain ⟨rfl, rfl, rfl⟩ := trodAll_nil h
    rfl
  | t :: ts, _, _, _, ht, h, hsame, hs => by
    obtain ⟨v, vs, d, ds, p, q, rfl, rfl, rfl, h1, h2⟩ := trodAll_cons h
    exact ⟨p, q, WideElems.Trod_stays hl (ht t List.mem_cons_self).1 (ht t List.mem_cons_self).2 h1 (fun x hx => hsame x (List.mem_append_left _ hx)) (fun x hx => hs x (List.mem_append_left _ hx)),
      trodAll_stays hl (fun t h => ht t (List.mem_cons_of_mem _ h)) h2 (fun x hx => hsame x (List.mem_append_right _ hx)) (fun x hx => hs x (List.mem_append_right _ hx)), rfl⟩
/-- The law's answer is true and all reads as before: what the statement asks. -/
theorem law_post {fn : Func} {s : ChangeSpec} {W W' : World} {args : Array Value} {ds gs : List (DataW H)} {before : List MemPlace} {tb : TypeId}
    (hl : laidOutB P = true) (hread : ∀ t ∈ fn.params.toList, P.readableRec t = true ∧ t < P.types.size) (hres : fn.resultTypes = #[tb]) (hb : P.underlying tb = some .bool) (hvars : s.vars = [])
    (hsr : (s.fn H ds).results = [.lit (.bool true)]) (hsa : (s.fn H ds).args = ds) (hsv : (s.fn H ds).vars = [])
    (hW : DataW.Whole enc P fn.params.toList s.vars false W args.toList ds gs before) (hg : Below W.heap.size W W') : s.post enc P fn false true false false W args (.bool true) W' := by
  have hlt := hW.lt
  have hW' := hW
  obtain ⟨p, q, hA, hV, rfl, _, _⟩ := hW
  rw [hvars] at hV
  obtain ⟨rfl, rfl⟩ := trodVars_none hV
  have hst : ∀ sp : Nat → Bool, (∀ x ∈ p ++ [], sp x.block = true) → DataW.TrodAll enc P W' 0 sp true fn.params.toList args.toList ds p := fun sp hsp =>
    trodAll_stays hl hread hA (fun x hx => hg.same (hlt x (by simpa using hx))) (fun x hx => hsp x (by simpa using hx))
  have hr1 : fn.resultTypes.toList = [tb] := by rw [hres]
  have hr2 : (Value.bool true).resultList fn.resultTypes.size = [.bool true] := by rw [hres]; rfl
  refine ⟨ds, [], p ++ [], [], p, [], hW', ?_, ?_, ?_, hg.frame _, fun h => by cases h⟩
  · rw [hr1, hr2, List.append_nil, hsr]
    exact trodAll_mk1 (shut_bool hb true)
  · rw [List.append_nil, hsa]
    exact hst _ (fun x hx => by simpa using hlt x hx)
  · rw [List.append_nil, hsv, hvars]; rfl
end
end Go.Proofs.Vm
/-! Groups among the arguments. -/
namespace Go.Proofs.Vm
open Go

section
variable {H : Type} {enc : TypeId × Value → H} {w : World} {sp : Nat → Bool} {hd : Bool}
theorem u_bool : Tryz.prog.underlying ty_bool = some .bool := by kernel_rfl
theorem u_int : Tryz.prog.underlying ty_int = some (.int .i64) := by kernel_rfl
theorem u_string : Tryz.prog.underlying ty_string = some .string := by kernel_rfl
theorem z_bool : Tryz.prog.cellsOf ty_bool = 1 := by kernel_rfl
theorem z_int : Tryz.prog.cellsOf ty_int = 1 := by kernel_rfl
theorem z_string : Tryz.prog.cellsOf ty_string = 1 := by kernel_rfl
theorem z_Rat : Tryz.prog.cellsOf ty_api_Rat = 3 := by kernel_rfl
theorem s_Rat : structIs Tryz.prog ty_api_Rat [(ty_bool, 0), (ty_string, 1), (ty_string, 2)] 3 = true := by kernel_rfl
theorem opens_XR : Opens XR enc Tryz.prog w sp hd ty_api_Rat := by
  intro fuel cs x h
  obtain ⟨hl, n, hf⟩ := open_struct s_Rat h
  obtain ⟨_, h0⟩ := hf 0 _ rfl
  obtain ⟨_, h1⟩ := hf 1 _ rfl
  obtain ⟨_, h2⟩ := hf 2 _ rfl
  simp only [z_bool, z_string] at h0 h1 h2
  obtain ⟨b, c0⟩ := open_bool u_bool h0
  obtain ⟨l1, c1⟩ := open_string u_string h1
  obtain ⟨l2, c2⟩ := open_string u_string h2
  exact ⟨⟨b, l1, l2⟩, CR.cons (o := 0) c0 (CR.cons (o := 1) c1 (CR.cons (o := 2) c2 (CR.last (by omega))))⟩
theorem z_Claim : Tryz.prog.cellsOf ty_api_Claim = 5 := by kernel_rfl
theorem s_Claim : structIs Tryz.prog ty_api_Claim [(ty_int, 0), (ty_int, 1), (ty_api_Rat, 2)] 5 = true := by kernel_rfl
theorem opens_Claim : Opens Claim enc Tryz.prog w sp hd ty_api_Claim := by
  intro fuel cs x h
  obtain ⟨hl, n, hf⟩ := open_struct s_Claim h
  obtain ⟨_, h0⟩ := hf 0 _ rfl
  obtain ⟨_, h1⟩ := hf 1 _ rfl
  obtain ⟨_, h2⟩ := hf 2 _ rfl
  simp only [z_int, z_Rat] at h0 h1 h2
  obtain ⟨a, c0, _⟩ := open_int u_int h0
  obtain ⟨b, c1, _⟩ := open_int u_int h1
  obtain ⟨x, c2⟩ := opens_XR _ _ _ h2
  exact ⟨⟨a, b, x⟩, CR.cons (o := 0) c0 (CR.cons (o := 1) c1 (CR.cons (o := 2) c2 (CR.last (by omega))))⟩
theorem z_Part : Tryz.prog.cellsOf ty_api_Part = 5 := by kernel_rfl
theorem s_Part : structIs Tryz.prog ty_api_Part [(ty_int, 0), (ty_bool, 1), (ty_api_Rat, 2)] 5 = true := by kernel_rfl
theorem opens_Part : Opens Part enc Tryz.prog w sp hd ty_api_Part := by
  intro fuel cs x h
  obtain ⟨hl, n, hf⟩ := open_struct s_Part h
  obtain ⟨_, h0⟩ := hf 0 _ rfl
  obtain ⟨_, h1⟩ := hf 1 _ rfl
  obtain ⟨_, h2⟩ := hf 2 _ rfl
  simp only [z_int, z_bool, z_Rat] at h0 h1 h2
  obtain ⟨a, c0, _⟩ := open_int u_int h0
  obtain ⟨b, c1⟩ := open_bool u_bool h1
  obtain ⟨x, c2⟩ := opens_XR _ _ _ h2
  exact ⟨⟨a, b, x⟩, CR.cons (o := 0) c0 (CR.cons (o := 1) c1 (CR.cons (o := 2) c2 (CR.last (by omega))))⟩
theorem u_SPart : Tryz.prog.underlying ty_Sapi_Part = some (.slice ty_api_Part) := by kernel_rfl
theorem z_SPart : Tryz.prog.cellsOf ty_Sapi_Part = 1 := by kernel_rfl
theorem opens_Tier : Opens Tier enc Tryz.prog w sp hd ty_Sapi_Part := by
  intro fuel cs x h
  obtain ⟨l, c⟩ := opens_slice (α := Part) u_SPart z_Part (by decide) opens_Part _ _ _ h
  exact ⟨⟨l⟩, c⟩
theorem u_SSPart : Tryz.prog.underlying ty_SSapi_Part = some (.slice ty_Sapi_Part) := by kernel_rfl
theorem z_SSPart : Tryz.prog.cellsOf ty_SSapi_Part = 1 := by kernel_rfl
theorem z_Agree : Tryz.prog.cellsOf ty_api_Agreement = 1 := by kernel_rfl
theorem s_Agree : structIs Tryz.prog ty_api_Agreement [(ty_SSapi_Part, 0)] 1 = true := by kernel_rfl
theorem opens_Agree : Opens Agree enc Tryz.prog w sp hd ty_api_Agreement := by
  intro fuel cs x h
  obtain ⟨hl, n, hf⟩ := open_struct s_Agree h
  obtain ⟨_, h0⟩ := hf 0 _ rfl
  simp only [z_SSPart] at h0
  obtain ⟨l, c0⟩ := opens_slice (α := Tier) u_SSPart z_SPart (by decide) opens_Tier _ _ _ h0
  exact ⟨⟨l⟩, CR.cons (o := 0) c0 (CR.last (by omega))⟩
theorem u_SClaim : Tryz.prog.underlying ty_Sapi_Claim = some (.slice ty_api_Claim) := by kernel_rfl
theorem z_SClaim : Tryz.prog.cellsOf ty_Sapi_Claim = 1 := by kernel_rfl
theorem u_SAgree : Tryz.prog.underlying ty_Sapi_Agreement = some (.slice ty_api_Agreement) := by kernel_rfl
theorem z_SAgree : Tryz.prog.cellsOf ty_Sapi_Agreement = 1 := by kernel_rfl
theorem z_Estate : Tryz.prog.cellsOf ty_api_Estate = 5 := by kernel_rfl
theorem s_Estate : structIs Tryz.prog ty_api_Estate [(ty_api_Rat, 0), (ty_Sapi_Claim, 3), (ty_Sapi_Agreement, 4)] 5 = true := by kernel_rfl
theorem opens_Estate : Opens Estate enc Tryz.prog w sp hd ty_api_Estate := by
  intro fuel cs x h
  obtain ⟨hl, n, hf⟩ := open_struct s_Estate h
  obtain ⟨_, h0⟩ := hf 0 _ rfl
  obtain ⟨_, h1⟩ := hf 1 _ rfl
  obtain ⟨_, h2⟩ := hf 2 _ rfl
  simp only [z_Rat, z_SClaim, z_SAgree] at h0 h1 h2
  obtain ⟨x, c0⟩ := opens_XR _ _ _ h0
  obtain ⟨l1, c1⟩ := opens_slice (α := Claim) u_SClaim z_Claim (by decide) opens_Claim _ _ _ h1
  obtain ⟨l2, c2⟩ := opens_slice (α := Agree) u_SAgree z_Agree (by decide) opens_Agree _ _ _ h2
  exact ⟨⟨x, l1, l2⟩, CR.cons (o := 0) c0 (CR.cons (o := 3) c1 (CR.cons (o := 4) c2 (CR.last (by omega))))⟩
theorem z_Leg : Tryz.prog.cellsOf ty_api_Leg = 2 := by kernel_rfl
theorem s_Leg : structIs Tryz.prog ty_api_Leg [(ty_int, 0), (ty_int, 1)] 2 = true := by kernel_rfl
theorem opens_Leg : Opens Leg enc Tryz.prog w sp hd ty_api_Leg := by
  intro fuel cs x h
  obtain ⟨hl, n, hf⟩ := open_struct s_Leg h
  obtain ⟨_, h0⟩ := hf 0 _ rfl
  obtain ⟨_, h1⟩ := hf 1 _ rfl
  simp only [z_int] at h0 h1
  obtain ⟨a, c0, _⟩ := open_int u_int h0
  obtain ⟨b, c1, _⟩ := open_int u_int h1
  exact ⟨⟨a, b⟩, CR.cons (o := 0) c0 (CR.cons (o := 1) c1 (CR.last (by omega)))⟩
theorem u_SLeg : Tryz.prog.underlying ty_Sapi_Leg = some (.slice ty_api_Leg) := by kernel_rfl
theorem z_SLeg : Tryz.prog.cellsOf ty_Sapi_Leg = 1 := by kernel_rfl
theorem z_Debt : Tryz.prog.cellsOf ty_api_Debt = 4 := by kernel_rfl
theorem s_Debt : structIs Tryz.prog ty_api_Debt [(ty_api_Rat, 0), (ty_Sapi_Leg, 3)] 4 = true := by kernel_rfl
theorem opens_Debt : Opens Debt enc Tryz.prog w sp hd ty_api_Debt := by
  intro fuel cs x h
  obtain ⟨hl, n, hf⟩ := open_struct s_Debt h
  obtain ⟨_, h0⟩ := hf 0 _ rfl
  obtain ⟨_, h1⟩ := hf 1 _ rfl
  simp only [z_Rat, z_SLeg] at h0 h1
  obtain ⟨x, c0⟩ := opens_XR _ _ _ h0
  obtain ⟨l1, c1⟩ := opens_slice (α := Leg) u_SLeg z_Leg (by decide) opens_Leg _ _ _ h1
  exact ⟨⟨x, l1⟩, CR.cons (o := 0) c0 (CR.cons (o := 3) c1 (CR.last (by omega)))⟩
theorem u_SEstate : Tryz.prog.underlying ty_Sapi_Estate = some (.slice ty_api_Estate) := by kernel_rfl
theorem z_SEstate : Tryz.prog.cellsOf ty_Sapi_Estate = 1 := by kernel_rfl
theorem u_SDebt : Tryz.prog.underlying ty_Sapi_Debt = some (.slice ty_api_Debt) := by kernel_rfl
theorem z_SDebt : Tryz.prog.cellsOf ty_Sapi_Debt = 1 := by kernel_rfl
theorem s_Group : structIs Tryz.prog ty_api_Group [(ty_Sapi_Estate, 0), (ty_Sapi_Debt, 1)] 2 = true := by kernel_rfl
theorem open_Group {fuel : Nat} {cs : List Value} {x : DataW H × List MemPlace} (h : DataW.trod enc Tryz.prog w 0 sp hd fuel ty_api_Group cs = some x) : ∃ g : Group, CR w g.c cs := by
  obtain ⟨hl, n, hf⟩ := open_struct s_Group h
  obtain ⟨_, h0⟩ := hf 0 _ rfl
  obtain ⟨_, h1⟩ := hf 1 _ rfl
  simp only [z_SEstate, z_SDebt] at h0 h1
  obtain ⟨l1, c0⟩ := opens_slice (α := Estate) u_SEstate z_Estate (by decide) opens_Estate _ _ _ h0
  obtain ⟨l2, c1⟩ := opens_slice (α := Debt) u_SDebt z_Debt (by decide) opens_Debt _ _ _ h1
  exact ⟨⟨l1, l2⟩, CR.cons (o := 0) c0 (CR.cons (o := 1) c1 (CR.last (by omega)))⟩
theorem seen_agg {l : List V} {cs : Array Value} (h : CR w l cs.toList) : FR noMem (memOf w) true (.agg l) (.agg cs) :=
  .agg _ _ _ (by simpa using h.1) fun j h1 h2 => by
    have := (h.2 j h1 (by simpa using h2)).1
    simpa using this
theorem seen_Group {v : Value} {d : DataW H} {ps : List MemPlace} {r : Reach} {base : Nat} (hv : Value.okWide Tryz.prog w r base ty_api_Group v) (h : DataW.Trod enc Tryz.prog w 0 sp hd ty_api_Group v d ps) : ∃ g : Group, FR noMem (memOf w) true (.agg g.c) v := by
  obtain ⟨fuel, h⟩ := h
  have hs := s_Group
  unfold structIs at hs
  split at hs
  · rename_i fs hfs
    obtain ⟨cs, rfl, _⟩ := WideShapes.okWide_struct hfs hv
    obtain ⟨g, hg⟩ := open_Group h
    exact ⟨g, seen_agg hg⟩
  · cases hs
end
end Go.Proofs.Vm
