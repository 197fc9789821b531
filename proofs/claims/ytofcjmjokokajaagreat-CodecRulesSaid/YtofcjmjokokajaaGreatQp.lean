/-
  A row of spans of the call's own, sorted by the library: the glue between the kit's words for the sort and ours. No program is named here. DERIVED: THE SHELF's CONTRACTS AT THIS DUMP, IN PLAIN WORDS (tools/lay-plain.mjs out of 'TryzShelfB.lean', which tools/lay-shelf.
-/
import Derived.Test.YtofcjmjokokajaaGreatQn
import Derived.Test.YtofcjmjokokajaaGreatProg
import Derived.Test.YtofcjmjokokajaaGreatQo
import Derived.Test.YtofcjmjokokajaaGreatQl
import Derived.Shelf.SlSortCmp.WholeK
import Derived.Shelf.Small.Bits
import Derived.Shelf.Small.Wraps
import Derived.Shelf.Strconv.Itoa0
import Derived.Ground.Names2Prog
import Derived.Shelf.Slices.Clone
import Derived.Shelf.Slices.SearchI
import Derived.Ground.SlgnProg
import Derived.Shelf.SlicesE.Clone
import Derived.Shelf.SlSortCmp.Whole1
import Derived.Ground.SlsfProg
namespace Go.Um
open Go.RowKit Go.Sort Go.Proofs
def Span.cells (x : Span) : List Value := [.int .i64 x.lo, .int .i64 x.hi]
instance : Inhabited Span := ⟨⟨0, 0⟩⟩
theorem flatK_spans (xs : List Span) : flatK Span.cells 2 xs.toArray = (xs.flatMap Span.cells).toArray := by
  have hlen : (xs.flatMap Span.cells).length = xs.length * 2 := by
    induction xs with
    | nil => rfl
    | cons x r ih => rw [List.flatMap_cons, List.length_append, ih, List.length_cons, Nat.add_mul]; simp [Span.cells]; omega
  refine ext_get! (by simp [hlen]) fun t ht => ?_
  have ht' : t < xs.toArray.size * 2 := by simpa using ht
  rw [get_flatK _ _ _ _ ht']
  simp only [List.size_toArray] at ht'
  clear ht hlen
  induction xs generalizing t with
  | nil => simp at ht'
  | cons x r ih =>
    rw [List.flatMap_cons]
    match t with
    | 0 => rfl
    | 1 => rfl
    | t + 2 =>
      have h1 := ih t (by simp at ht'; omega)
      have e1 : (t + 2) / 2 = t / 2 + 1 := by omega
      have e2 : (t + 2) % 2 = t % 2 := by omega
      rw [e1, e2]
      simpa [Span.cells] using h1
theorem holds_flat {w : World} {g : Nat} {cur : Array Value} {e : TypeId} {F : List Value} (hb : w.heap[g]? = some (.cells cur e (0, 0))) (ht : cur.toList.take F.length = F) : Holds id w g 0 F.toArray := by
  intro j hj
  have hj' : j < F.length := by simpa using hj
  refine ⟨?_, by simp [World.frozen?, hb]⟩
  have h1 : (cur.toList.take F.length)[j]? = F[j]? := by rw [ht]
  rw [List.getElem?_take_of_lt hj'] at h1
  simp only [World.cell?, hb, Nat.zero_add]
  simp only [Option.isSome_none, Bool.false_eq_true, if_false]
  rw [← Array.getElem?_toList, h1]
  simp [hj']
theorem heap_flat {w : World} {g n : Nat} {os : Array Obj} {cur : Array Value} {e : TypeId} {fr : Nat × Nat} (d : Array Value) (hb : w.heap[g]? = some (.cells cur e fr)) :
    (grow (putRow id (Sort.ahead w n) g 0 d) os).heap[g]? = some (.cells (putCells id 0 d cur) e fr) := by
  have hg : g < w.heap.size := (Array.getElem?_eq_some_iff.1 hb).1
  rw [heap_grow_old _ _ (by simpa using hg)]
  simp [putRow, mapBlock, Sort.ahead, Array.getElem?_modify, hb, onCells]
theorem grown_flat {w : World} {g n : Nat} {os : Array Obj} (d : Array Value) : w.grownBy (grow (putRow id (Sort.ahead w n) g 0 d) os) (some g) := by
  refine ⟨rfl, rfl, rfl, by simp, fun k hk hne => ?_⟩
  rw [heap_grow_old _ _ (by simpa using hk)]
  have : g ≠ k := fun e => hne (by rw [e])
  simp [putRow, mapBlock, Sort.ahead, Array.getElem?_modify, this]
theorem take_flat (cur : Array Value) (F : List Value) (h : F.length ≤ cur.size) : (putCells id 0 F.toArray cur).toList.take F.length = F := by
  apply List.ext_getElem?
  intro j
  by_cases hj : j < F.length
  · rw [List.getElem?_take_of_lt hj, Array.getElem?_toList]
    simp [putCells, hj, show j < cur.size by omega]
  · rw [List.getElem?_take_eq_none (by omega), List.getElem?_eq_none (by omega)]
theorem ltLo (x y : Span) : ltOf (fun x y : Span => Lib.compareInt x.lo y.lo) x y = decide (x.lo < y.lo) := by
  unfold ltOf Lib.compareInt
  by_cases h1 : x.lo < y.lo
  · simp [h1]
  · by_cases h2 : y.lo < x.lo <;> simp [h1, h2]
theorem swoLo : SWO (ltOf fun x y : Span => Lib.compareInt x.lo y.lo) where
  irrefl x := by rw [ltLo]; simp
  trans x y z h1 h2 := by rw [ltLo] at *; simp at *; omega
  ntrans x y z h1 h2 := by rw [ltLo] at *; simp at *; omega
theorem sortedLo_of {d : Array Span} (h : SortedIn (ltOf fun x y : Span => Lib.compareInt x.lo y.lo) 0 d.size d) : SortedLo d.toList := by
  unfold SortedLo
  rw [List.pairwise_iff_getElem]
  intro i j hi hj hij
  have h1 := h i j (Nat.zero_le _) hij (by simpa using hj)
  rw [ltLo] at h1
  simp only [Array.length_toList] at hi hj
  rw [getElem!_pos d i hi, getElem!_pos d j hj] at h1
  simp at h1
  simpa using h1
theorem perm_of {d d' : Array Span} (h : PermIn 0 d.size d d') : d'.toList.Perm d.toList := by
  obtain ⟨h1, _, h3⟩ := h
  have e1 : d'.extract 0 d.size = d' := by rw [← h1]; simp
  have e2 : d.extract 0 d.size = d := by simp
  rwa [e1, e2] at h3
theorem length_cells (xs : List Span) : (xs.flatMap Span.cells).length = xs.length * 2 := by
  induction xs with
  | nil => rfl
  | cons x r ih => rw [List.flatMap_cons, List.length_append, ih, List.length_cons, Nat.add_mul]; simp [Span.cells]; omega
end Go.Um
namespace Go.Proofs
open Go.Shelf
open Go.RowKit in
def Tryz.lays122_ren : Go.Shelf.Ren := ⟨fun | 122 => 191 | 215 => 237 | n => n, fun | 3 => 3 | 4 => 4 | n => n, fun | n => n⟩
theorem Tryz.lays122 : Go.Proofs.Lays.n122 Tryz.prog Tryz.lays122_ren := {
  mixed := by kernel_rfl
  f122 := Tryz.func191.trans (congrArg some (by kernel_rfl))
  f215 := Tryz.func237.trans (congrArg some (by kernel_rfl))
  t3 := Tryz.underlying3
  a3 := Tryz.isAgg3
  z3 := Tryz.sizeOf3
  v3 := Tryz.zeroValue3
  t4 := Tryz.underlying4
  a4 := Tryz.isAgg4
  z4 := Tryz.sizeOf4
  v4 := Tryz.zeroValue4 }
open Go.RowKit in
theorem Tryz.cmp_Compare_int (x y : Int) (w : World) :
    Calls Tryz.prog 191 #[.int .i64 x, .int .i64 y] w fun e w' => e = .returned (.int .i64 (Lib.compareInt x y)) ∧ w' = w := Any.cmp_Compare_int Tryz.lays122 x y w
open Go.RowKit Go.Lib in
open Go.RowKit Go.Lib in
open Go.RowKit Go.Lib in
open Go.RowKit Go.Lib in
open Go.RowKit Go.Lib in
open Go.RowKit Go.Lib in
def Tryz.sortSpan_ren : Go.Shelf.Ren := ⟨fun | 6 => 189 | 15 => 160 | 14 => 236 | 28 => 201 | 29 => 202 | 20 => 262 | 21 => 263 | 22 => 264 | 23 => 265 | 24 => 266 | 25 => 267 | 26 => 268 | 27 => 269 | 46 => 282 | 47 => 239 | 48 => 240 | 49 => 283 | 50 => 284 | 57 => 290 | n => n, fun | 22 => 91 | 24 => 90 | 25 => 270 | 3 => 3 | 39 => 149 | 0 => 0 | 53 => 280 | 55 => 282 | 4 => 4 | 46 => 274 | 45 => 273 | 50 => 172 | 5 => 5 | 9 => 9 | 66 => 320 | 70 => 324 | 76 => 349 | 77 => 94 | n => n, fun | n => n⟩
theorem Tryz.sortSpan : Go.Proofs.SlLaysF0.n6 Tryz.prog Tryz.sortSpan_ren := {
  mixed := by kernel_rfl
  f6 := ⟨Tryz.f189.name, by decide, Tryz.func189.trans (congrArg some (by kernel_rfl))⟩
  f14 := ⟨Tryz.f236.name, by decide, Tryz.func236.trans (congrArg some (by kernel_rfl))⟩
  f15 := Tryz.func160.trans (congrArg some (by kernel_rfl))
  f20 := ⟨Tryz.f262.name, by decide, Tryz.func262.trans (congrArg some (by kernel_rfl))⟩
  f21 := ⟨Tryz.f263.name, by decide, Tryz.func263.trans (congrArg some (by kernel_rfl))⟩
  f22 := ⟨Tryz.f264.name, by decide, Tryz.func264.trans (congrArg some (by kernel_rfl))⟩
  f23 := ⟨Tryz.f265.name, by decide, Tryz.func265.trans (congrArg some (by kernel_rfl))⟩
  f24 := ⟨Tryz.f266.name, by decide, Tryz.func266.trans (congrArg some (by kernel_rfl))⟩
  f25 := ⟨Tryz.f267.name, by decide, Tryz.func267.trans (congrArg some (by kernel_rfl))⟩
  f26 := ⟨Tryz.f268.name, by decide, Tryz.func268.trans (congrArg some (by kernel_rfl))⟩
  f27 := ⟨Tryz.f269.name, by decide, Tryz.func269.trans (congrArg some (by kernel_rfl))⟩
  f28 := Tryz.func201.trans (congrArg some (by kernel_rfl))
  f29 := Tryz.func202.trans (congrArg some (by kernel_rfl))
  f46 := ⟨Tryz.f282.name, by decide, Tryz.func282.trans (congrArg some (by kernel_rfl))⟩
  f47 := Tryz.func239.trans (congrArg some (by kernel_rfl))
  f48 := Tryz.func240.trans (congrArg some (by kernel_rfl))
  f49 := ⟨Tryz.f283.name, by decide, Tryz.func283.trans (congrArg some (by kernel_rfl))⟩
  f50 := ⟨Tryz.f284.name, by decide, Tryz.func284.trans (congrArg some (by kernel_rfl))⟩
  f57 := ⟨Tryz.f290.name, by decide, Tryz.func290.trans (congrArg some (by kernel_rfl))⟩
  t0 := Tryz.underlying0
  a0 := Tryz.isAgg0
  z0 := Tryz.sizeOf0
  v0 := Tryz.zeroValue0
  t3 := Tryz.underlying3
  a3 := Tryz.isAgg3
  z3 := Tryz.sizeOf3
  v3 := Tryz.zeroValue3
  t4 := Tryz.underlying4
  a4 := Tryz.isAgg4
  z4 := Tryz.sizeOf4
  v4 := Tryz.zeroValue4
  t5 := Tryz.underlying5
  a5 := Tryz.isAgg5
  z5 := Tryz.sizeOf5
  v5 := Tryz.zeroValue5
  t9 := Tryz.underlying9
  a9 := Tryz.isAgg9
  z9 := Tryz.sizeOf9
  v9 := Tryz.zeroValue9
  t22 := Tryz.underlying91
  a22 := Tryz.isAgg91
  z22 := Tryz.sizeOf91
  v22 := Tryz.zeroValue91
  t25 := Tryz.underlying270
  a25 := Tryz.isAgg270
  z25 := Tryz.sizeOf270
  v25 := Tryz.zeroValue270
  t39 := Tryz.underlying149
  a39 := Tryz.isAgg149
  z39 := Tryz.sizeOf149
  v39 := Tryz.zeroValue149
  t45 := Tryz.underlying273
  a45 := Tryz.isAgg273
  z45 := Tryz.sizeOf273
  v45 := Tryz.zeroValue273
  t46 := Tryz.underlying274
  a46 := Tryz.isAgg274
  z46 := Tryz.sizeOf274
  v46 := Tryz.zeroValue274
  t50 := Tryz.underlying172
  a50 := Tryz.isAgg172
  z50 := Tryz.sizeOf172
  v50 := Tryz.zeroValue172
  t53 := Tryz.underlying280
  a53 := Tryz.isAgg280
  z53 := Tryz.sizeOf280
  v53 := Tryz.zeroValue280
  t55 := Tryz.underlying282
  a55 := Tryz.isAgg282
  z55 := Tryz.sizeOf282
  v55 := Tryz.zeroValue282
  t66 := Tryz.underlying320
  a66 := Tryz.isAgg320
  z66 := Tryz.sizeOf320
  v66 := Tryz.zeroValue320
  t70 := Tryz.underlying324
  a70 := Tryz.isAgg324
  z70 := Tryz.sizeOf324
  v70 := Tryz.zeroValue324
  t76 := Tryz.underlying349
  a76 := Tryz.isAgg349
  z76 := Tryz.sizeOf349
  v76 := Tryz.zeroValue349
  t77 := Tryz.underlying94
  a77 := Tryz.isAgg94
  z77 := Tryz.sizeOf94
  v77 := Tryz.zeroValue94 }
def Tryz.sortWords_ren : Go.Shelf.Ren := ⟨fun | 6 => 108 | 15 => 160 | 14 => 159 | 28 => 201 | 29 => 202 | 20 => 193 | 21 => 194 | 22 => 195 | 23 => 196 | 24 => 197 | 25 => 198 | 26 => 199 | 27 => 200 | 46 => 238 | 47 => 239 | 48 => 240 | 49 => 241 | 50 => 242 | 57 => 270 | n => n, fun | 22 => 34 | 24 => 37 | 25 => 177 | 3 => 3 | 39 => 149 | 0 => 0 | 53 => 280 | 55 => 282 | 4 => 4 | 46 => 274 | 45 => 273 | 50 => 172 | 5 => 5 | 9 => 9 | 66 => 320 | 70 => 324 | 76 => 349 | 77 => 94 | n => n, fun | n => n⟩
theorem Tryz.sortWords : Go.Proofs.SlLaysF.n6 Tryz.prog Tryz.sortWords_ren := {
  mixed := by kernel_rfl
  f6 := ⟨Tryz.f108.name, by decide, Tryz.func108.trans (congrArg some (by kernel_rfl))⟩
  f14 := ⟨Tryz.f159.name, by decide, Tryz.func159.trans (congrArg some (by kernel_rfl))⟩
  f15 := Tryz.func160.trans (congrArg some (by kernel_rfl))
  f20 := ⟨Tryz.f193.name, by decide, Tryz.func193.trans (congrArg some (by kernel_rfl))⟩
  f21 := ⟨Tryz.f194.name, by decide, Tryz.func194.trans (congrArg some (by kernel_rfl))⟩
  f22 := ⟨Tryz.f195.name, by decide, Tryz.func195.trans (congrArg some (by kernel_rfl))⟩
  f23 := ⟨Tryz.f196.name, by decide, Tryz.func196.trans (congrArg some (by kernel_rfl))⟩
  f24 := ⟨Tryz.f197.name, by decide, Tryz.func197.trans (congrArg some (by kernel_rfl))⟩
  f25 := ⟨Tryz.f198.name, by decide, Tryz.func198.trans (congrArg some (by kernel_rfl))⟩
  f26 := ⟨Tryz.f199.name, by decide, Tryz.func199.trans (congrArg some (by kernel_rfl))⟩
  f27 := ⟨Tryz.f200.name, by decide, Tryz.func200.trans (congrArg some (by kernel_rfl))⟩
  f28 := Tryz.func201.trans (congrArg some (by kernel_rfl))
  f29 := Tryz.func202.trans (congrArg some (by kernel_rfl))
  f46 := ⟨Tryz.f238.name, by decide, Tryz.func238.trans (congrArg some (by kernel_rfl))⟩
  f47 := Tryz.func239.trans (congrArg some (by kernel_rfl))
  f48 := Tryz.func240.trans (congrArg some (by kernel_rfl))
  f49 := ⟨Tryz.f241.name, by decide, Tryz.func241.trans (congrArg some (by kernel_rfl))⟩
  f50 := ⟨Tryz.f242.name, by decide, Tryz.func242.trans (congrArg some (by kernel_rfl))⟩
  f57 := ⟨Tryz.f270.name, by decide, Tryz.func270.trans (congrArg some (by kernel_rfl))⟩
  t0 := Tryz.underlying0
  a0 := Tryz.isAgg0
  z0 := Tryz.sizeOf0
  v0 := Tryz.zeroValue0
  t3 := Tryz.underlying3
  a3 := Tryz.isAgg3
  z3 := Tryz.sizeOf3
  v3 := Tryz.zeroValue3
  t4 := Tryz.underlying4
  a4 := Tryz.isAgg4
  z4 := Tryz.sizeOf4
  v4 := Tryz.zeroValue4
  t5 := Tryz.underlying5
  a5 := Tryz.isAgg5
  z5 := Tryz.sizeOf5
  v5 := Tryz.zeroValue5
  t9 := Tryz.underlying9
  a9 := Tryz.isAgg9
  z9 := Tryz.sizeOf9
  v9 := Tryz.zeroValue9
  t22 := Tryz.underlying34
  a22 := Tryz.isAgg34
  z22 := Tryz.sizeOf34
  v22 := Tryz.zeroValue34
  a24 := Tryz.isAgg37
  z24 := Tryz.sizeOf37
  t25 := Tryz.underlying177
  a25 := Tryz.isAgg177
  z25 := Tryz.sizeOf177
  v25 := Tryz.zeroValue177
  t39 := Tryz.underlying149
  a39 := Tryz.isAgg149
  z39 := Tryz.sizeOf149
  v39 := Tryz.zeroValue149
  t45 := Tryz.underlying273
  a45 := Tryz.isAgg273
  z45 := Tryz.sizeOf273
  v45 := Tryz.zeroValue273
  t46 := Tryz.underlying274
  a46 := Tryz.isAgg274
  z46 := Tryz.sizeOf274
  v46 := Tryz.zeroValue274
  t50 := Tryz.underlying172
  a50 := Tryz.isAgg172
  z50 := Tryz.sizeOf172
  v50 := Tryz.zeroValue172
  t53 := Tryz.underlying280
  a53 := Tryz.isAgg280
  z53 := Tryz.sizeOf280
  v53 := Tryz.zeroValue280
  t55 := Tryz.underlying282
  a55 := Tryz.isAgg282
  z55 := Tryz.sizeOf282
  v55 := Tryz.zeroValue282
  t66 := Tryz.underlying320
  a66 := Tryz.isAgg320
  z66 := Tryz.sizeOf320
  v66 := Tryz.zeroValue320
  t70 := Tryz.underlying324
  a70 := Tryz.isAgg324
  z70 := Tryz.sizeOf324
  v70 := Tryz.zeroValue324
  t76 := Tryz.underlying349
  a76 := Tryz.isAgg349
  z76 := Tryz.sizeOf349
  v76 := Tryz.zeroValue349
  t77 := Tryz.underlying94
  a77 := Tryz.isAgg94
  z77 := Tryz.sizeOf94
  v77 := Tryz.zeroValue94 }
end Go.Proofs
namespace Go.Um
open Go.RowKit Go.Sort Go.Proofs Go.Vm
theorem cells_key : ∀ (l : List Span) (q : Nat) (y : Span), l[q]? = some y → (l.flatMap Span.cells)[q * 2]? = some (.int .i64 y.lo) ∧ (l.flatMap Span.cells)[q * 2 + 1]? = some (.int .i64 y.hi) := by
  intro l
  induction l with
  | nil => intro q y hq; simp at hq
  | cons a r ih =>
    intro q y hq
    rw [List.flatMap_cons]
    cases q with
    | zero => simp at hq; subst hq; exact ⟨rfl, rfl⟩
    | succ q =>
      have := ih q y (by simpa using hq)
      have e1 : (q + 1) * 2 = q * 2 + 2 := by omega
      rw [e1]
      simpa [Span.cells] using this
theorem cells_take {cur : Array Value} {xs : List Span} (hs : xs.length * 2 ≤ cur.size) (h : ∀ (i : Nat) (x : Span), xs[i]? = some x → cur[i * 2]? = some (.int .i64 x.lo) ∧ cur[i * 2 + 1]? = some (.int .i64 x.hi)) : cur.toList.take (xs.flatMap Span.cells).length = xs.flatMap Span.cells := by
  rw [length_cells]
  refine List.ext_getElem (by rw [List.length_take, length_cells]; simp; omega) fun k k1 k2 => ?_
  rw [length_cells] at k2
  have hj : k / 2 < xs.length := by omega
  have hx := List.getElem?_eq_getElem hj
  have h6 := h (k / 2) _ hx
  have h7 := cells_key xs (k / 2) _ hx
  apply Option.some.inj
  rw [← List.getElem?_eq_getElem, ← List.getElem?_eq_getElem, List.getElem?_take_of_lt k2, Array.getElem?_toList]
  rcases Nat.mod_two_eq_zero_or_one k with hk | hk
  · have e1 : k / 2 * 2 = k := by omega
    rw [e1] at h6 h7
    rw [h6.1, h7.1]
  · have e1 : k / 2 * 2 + 1 = k := by omega
    rw [e1] at h6 h7
    rw [h6.2, h7.2]
theorem sort_bridge {P : Program} {f c : FuncId} {t : TypeId} {srt : List Span → List Span} (hperm : ∀ l, (srt l).Perm l)
    (hcall : ∀ (w : World) (blk cap : Nat) (xs : List Span), HoldsK Span.cells 2 w blk 0 xs.toArray → blk < w.heap.size → xs.length < 4611686018427387904 → Calls P f #[.slice (some ⟨blk, 0, none⟩) xs.length cap, .func (.func c) #[] #[]] w fun e w' => e = .returned (.tuple #[]) ∧ ∃ n os, w' = sortWorldK Span.cells 2 w blk 0 n (srt xs).toArray os)
    {st : Store} {n id G L : Nat} {xs : List Span} (hst : st id = some (.cells t 2 G L (xs.map spanR.cells))) (hsz : xs.length < 4611686018427387904) :
    VCall P f [.row id G 0 xs.length, .func (.func c) [] []] st n (.tuple [], [(id, .cells t 2 G G ((srt xs).map spanR.cells))], n) := by
  intro w Sb Gh us N hs hfr hN1 hN2 hN3 hargs
  obtain ⟨u1, us1, rfl, h1, hargs⟩ := hargs.head
  obtain ⟨u2, us2, rfl, h2, hargs⟩ := hargs.head
  have := hargs.none
  subst this
  cases h1 with
  | @row _ _ _ _ cap E a hG hn hw hc hsome ha =>
    have ha := ha (.inl rfl)
    subst ha
    cases h2 with
    | @func _ _ _ fs cs q1 q2 _ _ =>
      have q1 : fs = #[] := Array.eq_empty_of_size_eq_zero q1
      have q2 : cs = #[] := Array.eq_empty_of_size_eq_zero q2
      subst q1 q2
      obtain ⟨hm0, hL, hcs, hT, hlen, hnone⟩ := hs.blk id _ hst
      obtain ⟨E', hE', hTT⟩ := hT G hL (Nat.le_refl _)
      rw [hG] at hE'
      cases hE'
      obtain ⟨cur, hwid, hheap, hcsz, hlc, hcm, hlx, hcells⟩ := hTT
      have hEl : E.len = xs.length := by simpa using hlen E hG
      have hblk : E.blk < w.heap.size := (Array.getElem?_eq_some_iff.1 hheap).1
      have hcs2 : xs.length * 2 ≤ cur.size := by rw [hcsz]; exact Nat.mul_le_mul_right 2 (by omega)
      have hH : HoldsK Span.cells 2 w E.blk 0 xs.toArray := by
        unfold HoldsK
        rw [flatK_spans]
        refine holds_flat hheap (cells_take hcs2 fun i x hx => ?_)
        have hi : i < E.len := by rw [hEl]; exact (List.getElem?_eq_some_iff.1 hx).1
        have hx' : (xs.map spanR.cells)[i]? = some (spanR.cells x) := by rw [List.getElem?_map, hx]; rfl
        obtain ⟨u0, r0, s0⟩ := hcells i (spanR.cells x) 0 _ hi hx' rfl
        obtain ⟨v0, r1, s1⟩ := hcells i (spanR.cells x) 1 _ hi hx' rfl
        cases s0
        cases s1
        exact ⟨r0, r1⟩
      rw [Nat.zero_mul]
      refine (show Calls P f #[.slice (some ⟨E.blk, 0, none⟩) xs.length cap, .func (.func c) #[] #[]] w _ from hcall w E.blk cap xs hH hblk hsz).mono ?_
      rintro e w' ⟨rfl, n', os, rfl⟩
      have hsl : (srt xs).length = xs.length := (hperm xs).length_eq
      have hheap' : (sortWorldK Span.cells 2 w E.blk 0 n' (srt xs).toArray os).heap[E.blk]? = some (.cells (putCells _root_.id 0 ((srt xs).flatMap Span.cells).toArray cur) t (0, 0)) := by
        unfold sortWorldK putRowK
        rw [flatK_spans]
        exact heap_flat _ hheap
      have hgr : w.grownBy (sortWorldK Span.cells 2 w E.blk 0 n' (srt xs).toArray os) (some E.blk) := by
        unfold sortWorldK putRowK
        exact grown_flat _
      obtain ⟨g1, g2, g3, g4, g5⟩ := hgr
      have hlv : ∀ j, live st id j ↔ L ≤ j ∧ j ≤ G := fun j => live_cells hst
      have hget : ∀ (i : Nat) (x : Span), (srt xs)[i]? = some x → (putCells _root_.id 0 ((srt xs).flatMap Span.cells).toArray cur)[i * 2]? = some (.int .i64 x.lo) ∧ (putCells _root_.id 0 ((srt xs).flatMap Span.cells).toArray cur)[i * 2 + 1]? = some (.int .i64 x.hi) := fun i x hx => by
        have ht := take_flat cur ((srt xs).flatMap Span.cells) (by rw [length_cells, hsl]; exact hcs2)
        have hk := cells_key (srt xs) i x hx
        have hi : i < (srt xs).length := (List.getElem?_eq_some_iff.1 hx).1
        rw [length_cells] at ht
        rw [← ht, List.getElem?_take_of_lt (by omega), List.getElem?_take_of_lt (by omega)] at hk
        simpa using hk
      refine ⟨.tuple #[], Sb, Gh, rfl, ?_, .tuple rfl (fun i v u q => by simp at q), fun _ _ _ _ => rfl⟩
      simp only [upd]
      refine Nxt.turn hs g1 g2 g3 g4 (fun k hk hne => g5 k hk fun q => ?_) (fun _ _ _ h => h) (fun _ _ _ => rfl)
        (fun k F hl hF => .inr ⟨G, E, (hlv G).2 ⟨hL, Nat.le_refl _⟩, hG, by
          have : k = G := by
            have := hl
            simp only [live] at this
            omega
          subst this
          rw [hG] at hF
          cases hF
          rfl⟩) (fun hmono => ?_)
      · cases q
        exact hne G E ((hlv G).2 ⟨hL, Nat.le_refl _⟩) hG rfl
      refine ⟨hm0, Nat.le_refl _, fun cs hcs' => ?_, fun k a b => ⟨E, by rw [show k = G by omega]; exact hG, _, hwid, hheap', by simpa [putCells] using hcsz, hlc, hcm, by simp; omega, fun i cs j v hi hx hv => ?_⟩, fun F hF => by rw [hG] at hF; cases hF; simp; omega, hnone⟩
      · obtain ⟨y, _, rfl⟩ := List.mem_map.1 hcs'
        refine ⟨rfl, fun v hv => ?_⟩
        exact ((spanR.ok y).2 v hv).2
      · rw [List.getElem?_map] at hx
        cases hy : (srt xs)[i]? with
        | none => rw [hy] at hx; cases hx
        | some y =>
          rw [hy] at hx
          cases hx
          have := hget i y hy
          match j, hv with
          | 0, hv => cases hv; exact ⟨_, this.1, .int _ _⟩
          | 1, hv => cases hv; exact ⟨_, this.2, .int _ _⟩
          | j + 2, hv => simp [spanR] at hv
end Go.Um
namespace Go.Proofs.YtofcjmjokokajaaGreat
open Go.RowKit Go.Um Go.Proofs Go.Vm Go.Sort Go.Shelf
theorem isAgg46 : ∀ w, (isAgg 90).run Tryz.prog w = .ok true w := fun _ => by kernel_rfl
theorem sizeOf46 : ∀ w, (Go.sizeOf 90).run Tryz.prog w = .ok 2 w := fun _ => by kernel_rfl
set_option maxHeartbeats 1000000 in
theorem cmp_calls (x y : Span) (W : World) : Calls Tryz.prog 190 #[.agg #[.int .i64 x.lo, .int .i64 x.hi], .agg #[.int .i64 y.lo, .int .i64 y.hi]] W fun e w' => e = .returned (.int .i64 (Lib.compareInt x.lo y.lo)) ∧ ∃ q os', w' = grow (W.drewN q) os' := by
  have hcon := fun W' => Tryz.cmp_Compare_int x.lo y.lo W'
  generalize Lib.compareInt x.lo y.lo = r at hcon ⊢
  have HC : Hid _ := hcon; clear hcon
  go_enter Tryz.func190, Tryz.ntmps190
  go_wp2_with fail
  refine (HC.out _).mono ?_
  rintro e w' ⟨rfl, rfl⟩
  go_wp2_with fail
  go_ret
  exact ⟨rfl, 0, _, by rw [alloc_eq_grow, alloc_eq_grow, grow_grow]; rfl⟩
def srtL (xs : List Span) : List Span := (pdq (ltOf fun x y : Span => Lib.compareInt x.lo y.lo) xs.toArray 0 xs.toArray.size (Lib.bitLen xs.toArray.size) true true).toList
theorem srt_both (xs : List Span) : (srtL xs).Perm xs ∧ SortedLo (srtL xs) := by
  have h := pdq_sorts (ltOf fun x y : Span => Lib.compareInt x.lo y.lo) swoLo xs.toArray 0 xs.toArray.size (Lib.bitLen xs.toArray.size) true true (Nat.zero_le _) (Nat.le_refl _) (Or.inl rfl)
  refine ⟨by simpa [srtL] using perm_of h.1, sortedLo_of ?_⟩
  have hsz := h.1.1
  have h2 := h.2
  generalize pdq (ltOf fun x y : Span => Lib.compareInt x.lo y.lo) xs.toArray 0 xs.toArray.size (Lib.bitLen xs.toArray.size) true true = d at *
  rw [hsz]
  exact h2
theorem sort_v {st : Store} {n id G L : Nat} {xs : List Span} (hst : st id = some (.cells 90 2 G L (xs.map spanR.cells))) (hsz : xs.length < 4611686018427387904) :
    VCall Tryz.prog 189 [.row id G 0 xs.length, .func (.func 190) [] []] st n (.tuple [], [(id, .cells 90 2 G G ((srtL xs).map spanR.cells))], n) := by
  refine sort_bridge (fun l => (srt_both l).1) (fun w blk cap xs hH hblk hsz => ?_) hst hsz
  have eg : ∀ args w, (callFunc 190 args).run Tryz.prog w = .ok (.enter 190 args) w := enters_of Tryz.func190 (by kernel_rfl) rfl
  have hcon := AnyQ.slices_SortFunc_eq Tryz.sortSpan 2 isAgg46 sizeOf46 Span.cells (fun _ => rfl) (fun x v hv => by simp [Span.cells] at hv; rcases hv with rfl | rfl <;> rfl) (fun x y => Lib.compareInt x.lo y.lo) swoLo 190 #[] blk 0 cap xs.toArray w eg
    (fun _ _ _ _ x y => cmp_calls x y _) hH hblk (by simpa using hsz)
  refine (show Calls Tryz.prog 189 _ _ _ from hcon).mono ?_
  rintro e w' ⟨rfl, n, os, rfl⟩
  exact ⟨rfl, n, os, by simp [srtL]⟩
theorem srt_ex : ∃ srt : List Span → List Span, (∀ xs, (srt xs).Perm xs ∧ SortedLo (srt xs)) ∧ ∀ {st : Store} {n id G L : Nat} {xs : List Span} (_ : st id = some (.cells 90 2 G L (xs.map spanR.cells))) (_ : xs.length < 4611686018427387904),
    VCall Tryz.prog 189 [.row id G 0 xs.length, .func (.func 190) [] []] st n (.tuple [], [(id, .cells 90 2 G G ((srt xs).map spanR.cells))], n) := ⟨srtL, srt_both, fun hst hsz => sort_v hst hsz⟩
end Go.Proofs.YtofcjmjokokajaaGreat
namespace Go.Proofs.YtofcjmjokokajaaGreat
open Go.RowKit Go.Um Go.Proofs Go.Vm
attribute [local irreducible] Ev arun awp RetQ NextQ
theorem clampL_yes {s : Span} {r : List Span} (h : max s.lo (-1073741824) ≤ min s.hi 1073741824) : clampL (s :: r) = ⟨max s.lo (-1073741824), min s.hi 1073741824⟩ :: clampL r := by
  unfold clampL; rw [List.filterMap_cons]; simp only [clampS, if_pos h]
theorem clampL_no {s : Span} {r : List Span} (h : ¬ max s.lo (-1073741824) ≤ min s.hi 1073741824) : clampL (s :: r) = clampL r := by
  unfold clampL; rw [List.filterMap_cons]; simp only [clampS, if_neg h]
structure NormSt where
  k : Nat
  xs : List Span
  g : Nat
  L : Nat
structure JoinSt where
  i : Nat
  outs : List Span
  C : List Span
set_option maxHeartbeats 2000000
noncomputable def srtF : List Span → List Span := Classical.choose srt_ex
def stepC (p : List Span × List Span) (x : Span) : List Span × List Span :=
  match p.1.getLast? with
  | none => ([x], x :: p.2.drop 1)
  | some t => if x.lo ≤ t.hi + 1 then (p.1.dropLast ++ [⟨t.lo, max t.hi x.hi⟩], p.2.set (p.1.length - 1) ⟨t.lo, max t.hi x.hi⟩) else (p.1 ++ [x], p.2.take p.1.length ++ x :: p.2.drop (p.1.length + 1))
noncomputable def normC (l : List Span) : List Span := ((srtF (clampL l)).foldl stepC ([], srtF (clampL l))).2
theorem norm_core (l : List Span) (hl : l.length ≤ 1073741824) {c : Code} (hb : Tryz.f154.body = some c) (Q : XPost) (hQ : ∀ g E S n, lk E 2 = .row 1 g 0 (normF l).length → slk S 1 = some (.cells 90 2 g g ((normC l).map spanR.cells)) → (normC l).take (normF l).length = normF l → Q .ret E S n) : awp Tryz.prog 83 c Q (argE 0 [spanR.L l]) [] 1 := by
  obtain rfl := Option.some.inj (show some _ = some c from hb)
  refine wk ⟨?_⟩
  refine a_loop (σ := NormSt) 0 [13, 14] (fun x => [(3, V.row 1 x.g 0 x.xs.length), (15, V.int .i64 (x.k : Int))]) (fun x => [(1, some (.cells 90 2 x.g x.L (x.xs.map spanR.cells)))]) (fun x => x.k ≤ l.length ∧ x.xs.length ≤ x.k ∧ x.L ≤ x.g ∧ x.xs ++ clampL (l.drop x.k) = clampL l) (fun x => l.length - x.k) ⟨0, [], 0, 0⟩ ⟨Nat.zero_le _, Nat.le_refl _, Nat.le_refl _, by simp⟩ ?_
  rintro ⟨k, xs, g, L⟩ ⟨hk, hxk, hLg, hxs⟩
  simp only at hk hxk hLg hxs
  dsimp only
  obtain hx | ⟨y, hx, hlt⟩ := range_cases hk
  · obtain ⟨hsrt, hcall⟩ := Classical.choose_spec srt_ex
    have hsrtF : Classical.choose srt_ex = srtF := rfl
    rw [hsrtF] at hsrt
    simp only [hsrtF] at hcall
    have hxl : xs = clampL l := by rw [hx, List.drop_length] at hxs; simpa [clampL] using hxs
    refine wk ⟨?_⟩
    refine ar_call (hcall (id := 1) (xs := xs) rfl (by omega)) ((1, some (.cells 90 2 g g ((srtF xs).map spanR.cells))) :: _) ?_ (upd_one _ _) (fun p hp => .inr (by obtain rfl := List.mem_singleton.1 hp; simp [slk])) (Nat.le_refl _)
    have hyl : (srtF xs).length = xs.length := (hsrt xs).1.length_eq
    have hJ : joinL [] (srtF xs) = normF l := joinL_eq (by rw [← hxl]; exact (hsrt xs).1) (hsrt xs).2
    have hyok : ∀ y ∈ srtF xs, okS y := fun y hy => clampL_ok y (by rw [← hxl]; exact (hsrt xs).1.mem_iff.1 hy)
    have hCC : normC l = ((srtF xs).foldl stepC ([], srtF xs)).2 := by unfold normC; rw [← hxl]
    clear hsrt hcall hxs hxl hsrtF
    generalize srtF xs = ys at *
    refine wk ⟨?_⟩
    refine a_loop (σ := JoinSt) 0 [41, 42] (fun x => [(6, V.row 1 g 0 x.outs.length), (43, V.int .i64 (x.i : Int))]) (fun x => [(1, some (.cells 90 2 g g (x.C.map spanR.cells)))]) (fun x => x.i ≤ ys.length ∧ x.outs.length ≤ x.i ∧ x.C.length = ys.length ∧ x.C.take x.outs.length = x.outs ∧ x.C.drop x.i = ys.drop x.i ∧ joinL x.outs (ys.drop x.i) = normF l ∧ (∀ y ∈ x.outs, okS y) ∧ (x.outs, x.C) = (ys.take x.i).foldl stepC ([], ys)) (fun x => ys.length - x.i) ⟨0, [], ys⟩ ⟨Nat.zero_le _, Nat.le_refl _, rfl, rfl, rfl, hJ, by simp, rfl⟩ ?_
    rintro ⟨i, outs, C⟩ ⟨hi, hoi, hCl, hCo, hCd, hj, hok, hF⟩
    simp only at hi hoi hCl hCo hCd hj hok hF
    obtain hie | ⟨x, hx', hlt⟩ := range_cases hi
    · dsimp only
      refine wk ⟨?_⟩
      have hfin : outs = normF l := by rw [← hj, List.drop_of_length_le (by omega)]; rfl
      have hCn : C = normC l := by rw [hie, List.take_length] at hF; rw [hCC, ← hF]
      subst hfin
      subst hCn
      exact hQ g _ _ _ rfl rfl hCo
    · have hxo := hyok x (List.mem_of_getElem? hx')
      have hF2 : ∀ p, stepC (outs, C) x = p → p = (ys.take (i + 1)).foldl stepC ([], ys) := fun p hp => by rw [take_at hx', List.foldl_append, ← hF]; exact hp.symm
      have hCx : C[i]? = some x := by
        have h1 : (C.drop i)[0]? = (ys.drop i)[0]? := by rw [hCd]
        simpa [hx'] using h1
      have hj2 : joinL (joinStep outs x) (ys.drop (i + 1)) = normF l := by rw [← hj, drop_at hx']; rfl
      have hCd2 : C.drop (i + 1) = ys.drop (i + 1) := by simpa using congrArg (List.drop 1) hCd
      rcases List.eq_nil_or_concat outs with rfl | ⟨ini, t, rfl⟩
      · dsimp only
        refine wk ⟨?_⟩
        refine a_next ⟨i + 1, [x], x :: C.drop 1⟩ ⟨hlt, by simp, by simp; omega, by simp, by simp only [List.drop_succ_cons, List.drop_drop]; rw [Nat.add_comm 1 i]; exact hCd2, hj2, by simpa using hxo, hF2 _ rfl⟩ (by simp only; omega) (by exact wz)
      · rw [List.concat_eq_append] at *
        have hl1 : (ini ++ [t]).length = ini.length + 1 := by simp
        have hCt : C[((↑(ini ++ [t]).length : Int) - 1).toNat]? = some t := by
          rw [hl1, show (((ini.length + 1 : Nat) : Int) - 1).toNat = ini.length by omega]
          have h1 : (C.take (ini ++ [t]).length)[ini.length]? = (ini ++ [t])[ini.length]? := by rw [hCo]
          rw [List.getElem?_take, if_pos (by omega)] at h1
          simpa using h1
        have hto := hok t (by simp)
        unfold okS at hto hxo
        dsimp only
        have hN : ((↑(ini ++ [t]).length : Int) - 1).toNat = ini.length := by rw [hl1]; omega
        have htk : (C.take (ini ++ [t]).length).length = ini.length + 1 := by rw [List.length_take]; omega
        refine wk2 (fun h => ⟨?_⟩) (fun h => ⟨?_⟩)
        · have hle : x.lo ≤ t.hi + 1 := by assumption
          refine a_next ⟨i + 1, ini ++ [⟨t.lo, max t.hi x.hi⟩], C.set ((↑(ini ++ [t]).length : Int) - 1).toNat ⟨t.lo, max t.hi x.hi⟩⟩ ⟨hlt, by simp at hoi ⊢; omega, by simpa using hCl, ?_, ?_, by simpa [joinStep, hle] using hj2, ?_, hF2 _ (by simp [stepC, hle])⟩ (by simp only; omega) (by exact wz)
          · simp only [hN]
            simp only [List.length_append, List.length_singleton]
            rw [hl1] at hCo
            refine List.ext_getElem? fun q => ?_
            have hq : (C.take (ini.length + 1))[q]? = (ini ++ [t])[q]? := by rw [hCo]
            rw [List.getElem?_take] at hq ⊢
            by_cases hq1 : q < ini.length + 1
            · rw [if_pos hq1] at hq ⊢
              rw [List.getElem?_set]
              by_cases hqi : ini.length = q
              · subst hqi; simp; omega
              · rw [if_neg hqi, hq, List.getElem?_append_left (by omega), List.getElem?_append_left (by omega)]
            · rw [if_neg hq1, List.getElem?_eq_none (by simp; omega)]
          · simp only
            rw [hN, List.drop_set_of_lt (by omega)]
            exact hCd2
          · intro z hz
            rcases List.mem_append.1 hz with hz | hz
            · exact hok z (by simp [hz])
            · simp at hz; subst hz; unfold okS; simp only; omega
        · have hle : ¬ x.lo ≤ t.hi + 1 := by assumption
          refine a_next ⟨i + 1, (ini ++ [t]) ++ [x], C.take (ini ++ [t]).length ++ x :: C.drop ((ini ++ [t]).length + 1)⟩ ⟨hlt, by simp at hoi ⊢; omega, by simp; omega, ?_, ?_, by simpa [joinStep, hle] using hj2, ?_, hF2 _ (by simp [stepC, hle])⟩ (by simp only; omega) (by exact wz)
          · simp only
            rw [show C.take (ini ++ [t]).length ++ x :: C.drop ((ini ++ [t]).length + 1) = ((ini ++ [t]) ++ [x]) ++ C.drop ((ini ++ [t]).length + 1) by rw [hCo]; simp]
            exact List.take_left
          · simp only
            have e1 : C.drop (i + 1) = (C.drop (ini.length + 1 + 1)).drop (i + 1 - (ini.length + 1 + 1)) := by rw [List.drop_drop]; congr 1; omega
            rw [← hCd2, e1, List.drop_append, htk, List.drop_of_length_le (by omega), List.nil_append, hl1, show i + 1 - (ini.length + 1) = (i + 1 - (ini.length + 1 + 1)) + 1 by omega, List.drop_succ_cons]
          · intro z hz
            rcases List.mem_append.1 hz with hz | hz
            · exact hok z hz
            · simp at hz; subst hz; exact hyok _ (List.mem_of_getElem? hx')
  · have hD := drop_at hx
    refine wk2 (fun h => ⟨?_⟩) (fun h => ⟨?_⟩)
    · refine a_next ⟨k + 1, xs ++ [⟨max y.lo (-1073741824), min y.hi 1073741824⟩], g + 1, L⟩ ⟨hlt, by simp; omega, by simp only; omega, ?_⟩ (by simp only; omega) ?_
      · simp only
        rw [← hxs, hD, clampL_yes (by assumption)]; simp
      · exact wz
    · refine a_next ⟨k + 1, xs, g, L⟩ ⟨hlt, by simp only; omega, hLg, ?_⟩ (by simp only; omega) (by exact wz)
      simp only
      rw [← hxs, hD, clampL_no (by assumption)]
theorem norm_v (l : List Span) (hl : l.length ≤ 1073741824) : VPure Tryz.prog 154 [spanR.L l] (spanR.L (normF l)) :=
  a_pure (n0 := 1) (hN := Tryz.ntmps154) (hf := Tryz.func154) (norm_core l hl rfl _ fun g _ _ _ h1 h2 h3 => ret_tmp (.inr rfl) rfl h1 (pk_pre h2 (ble2 (Nat.le_refl g)) rfl h3 rfl))
theorem foldC : ∀ (r outs C : List Span), C.take outs.length = outs → outs.length + r.length ≤ C.length → (r.foldl stepC (outs, C)).1 = joinL outs r ∧ (r.foldl stepC (outs, C)).2.take (joinL outs r).length = joinL outs r
  | [], outs, C, h, _ => ⟨rfl, h⟩
  | x :: r, outs, C, h, hl => by
    have hstep : (stepC (outs, C) x).1 = joinStep outs x ∧ (stepC (outs, C) x).2.take (joinStep outs x).length = joinStep outs x ∧ (joinStep outs x).length ≤ outs.length + 1 ∧ (stepC (outs, C) x).2.length = C.length := by
      simp only [List.length_cons] at hl
      rcases List.eq_nil_or_concat outs with rfl | ⟨ini, t, rfl⟩
      · refine ⟨rfl, rfl, Nat.le_refl _, ?_⟩
        simp [stepC]; omega
      · rw [List.concat_eq_append] at *
        simp only [List.length_append, List.length_singleton] at hl h
        by_cases hle : x.lo ≤ t.hi + 1
        · have e1 : stepC (ini ++ [t], C) x = (ini ++ [⟨t.lo, max t.hi x.hi⟩], C.set ini.length ⟨t.lo, max t.hi x.hi⟩) := by simp [stepC, hle]
          have e2 : joinStep (ini ++ [t]) x = ini ++ [⟨t.lo, max t.hi x.hi⟩] := by simp [joinStep, hle]
          rw [e1, e2]
          refine ⟨rfl, ?_, by simp, by simp⟩
          simp only [List.length_append, List.length_singleton]
          refine List.ext_getElem? fun q => ?_
          have hq : (C.take (ini.length + 1))[q]? = (ini ++ [t])[q]? := by rw [h]
          rw [List.getElem?_take] at hq ⊢
          by_cases hq1 : q < ini.length + 1
          · rw [if_pos hq1] at hq ⊢
            rw [List.getElem?_set]
            by_cases hqi : ini.length = q
            · subst hqi; simp; omega
            · rw [if_neg hqi, hq, List.getElem?_append_left (by omega), List.getElem?_append_left (by omega)]
          · rw [if_neg hq1, List.getElem?_eq_none (by simp; omega)]
        · have e1 : stepC (ini ++ [t], C) x = ((ini ++ [t]) ++ [x], C.take (ini.length + 1) ++ x :: C.drop (ini.length + 1 + 1)) := by simp [stepC, hle]
          have e2 : joinStep (ini ++ [t]) x = (ini ++ [t]) ++ [x] := by simp [joinStep, hle]
          rw [e1, e2]
          refine ⟨rfl, ?_, by simp, by simp; omega⟩
          simp only
          rw [h, show (ini ++ [t]) ++ x :: C.drop (ini.length + 1 + 1) = ((ini ++ [t]) ++ [x]) ++ C.drop (ini.length + 1 + 1) by simp]
          exact List.take_left
    obtain ⟨h1, h2, h3, h4⟩ := hstep
    have he : stepC (outs, C) x = (joinStep outs x, (stepC (outs, C) x).2) := by rw [← h1]
    rw [List.foldl_cons, he]
    exact foldC r (joinStep outs x) _ h2 (by simp only [List.length_cons] at hl; omega)
theorem normC_take (l : List Span) : (normC l).take (normF l).length = normF l := by
  have hs := (Classical.choose_spec srt_ex).1 (clampL l)
  have hJ : joinL [] (srtF (clampL l)) = normF l := joinL_eq hs.1 hs.2
  rw [← hJ]
  exact (foldC (srtF (clampL l)) [] (srtF (clampL l)) rfl (by simp)).2
theorem norm_o (l : List Span) (hl : l.length ≤ 1073741824) : VOwn Tryz.prog 154 [spanR.L l] 90 2 (normF l).length ((normC l).map spanR.cells) :=
  a_own (spanR.cl 0 _) (hN := Tryz.ntmps154) (hf := Tryz.func154) (norm_core l hl rfl _ fun g E S n h1 h2 _ => ret_own (.inr rfl) rfl h1 rfl h2)
end Go.Proofs.YtofcjmjokokajaaGreat
namespace Go.Um
def pw (n : Int) : Int := 2 ^ n.toNat
theorem pw_pos (n : Int) : 0 < pw n := Int.pow_pos (by decide)
theorem pw_mono {n m : Int} (h : n ≤ m) : pw n ≤ pw m := by
  unfold pw
  exact_mod_cast Nat.pow_le_pow_right (by decide : 0 < 2) (show n.toNat ≤ m.toNat by omega)
theorem pw_20 {n : Int} (h : n ≤ 20) : pw n ≤ 1048576 := pw_mono (m := 20) h
theorem pw_21 {n : Int} (h : n ≤ 21) : pw n ≤ 2097152 := pw_mono (m := 21) h
theorem pw_6 {n : Int} (h : n ≤ 6) : pw n ≤ 64 := pw_mono (m := 6) h
def bitsF (p : Part) : Bool := decide (0 ≤ p.drop ∧ p.drop ≤ 20 ∧ 1 ≤ p.take ∧ p.take ≤ 21 ∧ 0 ≤ p.up ∧ p.up ≤ 20 ∧ (p.up = 0 ∨ p.take ≤ 6))
theorem bitsF_iff {p : Part} : bitsF p = true ↔ 0 ≤ p.drop ∧ p.drop ≤ 20 ∧ 1 ≤ p.take ∧ p.take ≤ 21 ∧ 0 ≤ p.up ∧ p.up ≤ 20 ∧ (p.up = 0 ∨ p.take ≤ 6) := decide_eq_true_iff
def valF (p : Part) (x : Int) : Int := x / pw p.drop % pw p.take * pw p.up
theorem valF_nonneg (p : Part) (x : Int) : 0 ≤ valF p x := Int.mul_nonneg (Int.emod_nonneg _ (by have := pw_pos p.take; omega)) (by have := pw_pos p.up; omega)
theorem valF_le {p : Part} (h : bitsF p = true) (x : Int) : valF p x ≤ 67108864 := by
  have hb := bitsF_iff.1 h
  have h1 := Int.emod_lt_of_pos (x / pw p.drop) (pw_pos p.take)
  have h0 := Int.emod_nonneg (x / pw p.drop) (show pw p.take ≠ 0 by have := pw_pos p.take; omega)
  unfold valF
  rcases hb.2.2.2.2.2.2 with h2 | h2
  · rw [h2, show pw 0 = 1 from rfl, Int.mul_one]
    have := pw_21 hb.2.2.2.1
    omega
  · have h3 := pw_6 h2
    have h4 := pw_20 hb.2.2.2.2.2.1
    have h5 := pw_pos p.up
    have : x / pw p.drop % pw p.take * pw p.up ≤ 64 * 1048576 := Int.mul_le_mul (by omega) h4 (by omega) (by decide)
    omega
/-! ### All numbers of a set -/
def eachS (s : Span) : List Int := (List.range (s.hi - s.lo + 1).toNat).map (fun k : Nat => s.lo + (k : Int))
def eachL (l : List Span) : List Int := l.flatMap eachS
theorem mem_eachS {s : Span} {x : Int} : x ∈ eachS s ↔ s.lo ≤ x ∧ x ≤ s.hi := by
  unfold eachS
  rw [List.mem_map]
  constructor
  · rintro ⟨k, hk, rfl⟩
    rw [List.mem_range] at hk
    omega
  · rintro ⟨h1, h2⟩
    exact ⟨(x - s.lo).toNat, by rw [List.mem_range]; omega, by omega⟩
theorem mem_eachL {l : List Span} {x : Int} : x ∈ eachL l ↔ mem l x := by
  unfold eachL mem
  rw [List.mem_flatMap]
  constructor
  · rintro ⟨s, hs, hx⟩; exact ⟨s, hs, mem_eachS.1 hx⟩
  · rintro ⟨s, hs, hx⟩; exact ⟨s, hs, mem_eachS.2 hx⟩
/-! ### The image of a set -/
def imgOne (d m : Int) (x : Span) : List Span :=
  if x.lo / d % m ≤ x.hi / d % m then [⟨x.lo / d % m, x.hi / d % m⟩] else [⟨0, x.hi / d % m⟩, ⟨x.lo / d % m, m - 1⟩]
def wide (d m : Int) (x : Span) : Bool := decide (m - 1 ≤ x.hi / d - x.lo / d)
def imgRaw (d m : Int) (l : List Span) : List Span := if l.any (wide d m) then [⟨0, m - 1⟩] else l.flatMap (imgOne d m)
theorem ediv_span {d : Int} (hd : 0 < d) {lo hi q : Int} (_h : lo ≤ hi) : (∃ x, lo ≤ x ∧ x ≤ hi ∧ x / d = q) ↔ lo / d ≤ q ∧ q ≤ hi / d := by
  constructor
  · rintro ⟨x, h1, h2, rfl⟩
    exact ⟨Int.ediv_le_ediv hd h1, Int.ediv_le_ediv hd h2⟩
  · rintro ⟨h1, h2⟩
    by_cases h3 : lo / d = q
    · exact ⟨lo, by omega, by omega, h3⟩
    · refine ⟨q * d, ?_, ?_, Int.mul_ediv_cancel q (by omega)⟩
      · have h4 : lo < (lo / d + 1) * d := Int.lt_ediv_add_one_mul_self lo hd
        have h5 : (lo / d + 1) * d ≤ q * d := Int.mul_le_mul_of_nonneg_right (by omega) (by omega)
        omega
      · have h4 : hi / d * d ≤ hi := Int.ediv_mul_le hi (by omega)
        have h5 : q * d ≤ hi / d * d := Int.mul_le_mul_of_nonneg_right h2 (by omega)
        omega
theorem emod_wide {m a b r : Int} (hm : 0 < m) (h : m - 1 ≤ b - a) : (∃ q, a ≤ q ∧ q ≤ b ∧ q % m = r) ↔ 0 ≤ r ∧ r ≤ m - 1 := by
  constructor
  · rintro ⟨q, _, _, rfl⟩
    have := Int.emod_nonneg q (show m ≠ 0 by omega)
    have := Int.emod_lt_of_pos q hm
    omega
  · rintro ⟨h1, h2⟩
    have e := Int.emod_nonneg (r - a) (show m ≠ 0 by omega)
    have e2 := Int.emod_lt_of_pos (r - a) hm
    refine ⟨a + (r - a) % m, by omega, by omega, ?_⟩
    rw [Int.add_emod, Int.emod_emod, ← Int.add_emod, show a + (r - a) = r by omega]
    exact Int.emod_eq_of_lt h1 (by omega)
theorem emod_one {m a b r : Int} (hm : 0 < m) (hab : a ≤ b) (h : ¬ m - 1 ≤ b - a) :
    (∃ q, a ≤ q ∧ q ≤ b ∧ q % m = r) ↔ if a % m ≤ b % m then a % m ≤ r ∧ r ≤ b % m else (0 ≤ r ∧ r ≤ b % m) ∨ (a % m ≤ r ∧ r ≤ m - 1) := by
  have a0 := Int.emod_nonneg a (show m ≠ 0 by omega)
  have a1 := Int.emod_lt_of_pos a hm
  have b0 := Int.emod_nonneg b (show m ≠ 0 by omega)
  have b1 := Int.emod_lt_of_pos b hm
  have ea := Int.emod_add_mul_ediv a m
  have eb := Int.emod_add_mul_ediv b m
  have key : b / m = a / m ∨ b / m = a / m + 1 := by
    have k1 : a / m ≤ b / m := Int.ediv_le_ediv hm hab
    by_cases k2 : b / m ≤ a / m + 1
    · omega
    · exfalso
      have k3 : m * (a / m + 2) ≤ m * (b / m) := Int.mul_le_mul_of_nonneg_left (by omega) (by omega)
      rw [Int.mul_add] at k3
      omega
  constructor
  · rintro ⟨q, h1, h2, rfl⟩
    have q0 := Int.emod_nonneg q (show m ≠ 0 by omega)
    have q1 := Int.emod_lt_of_pos q hm
    have eq := Int.emod_add_mul_ediv q m
    have k1 : a / m ≤ q / m := Int.ediv_le_ediv hm h1
    have k2 : q / m ≤ b / m := Int.ediv_le_ediv hm h2
    rcases key with key | key
    · have : q / m = a / m := by omega
      rw [this] at eq
      rw [key] at eb
      rw [if_pos (by omega)]
      omega
    · rw [key, Int.mul_add] at eb
      rw [if_neg (by omega)]
      by_cases k3 : q / m = a / m
      · rw [k3] at eq; right; omega
      · have : q / m = a / m + 1 := by omega
        rw [this, Int.mul_add] at eq
        left; omega
  · intro hr
    rcases key with key | key
    · rw [key] at eb
      rw [if_pos (by omega)] at hr
      refine ⟨a + (r - a % m), by omega, by omega, ?_⟩
      rw [show a + (r - a % m) = r + m * (a / m) by omega, Int.add_mul_emod_self_left]
      exact Int.emod_eq_of_lt (by omega) (by omega)
    · rw [key, Int.mul_add] at eb
      rw [if_neg (by omega)] at hr
      rcases hr with hr | hr
      · refine ⟨r + m * (a / m + 1), by rw [Int.mul_add]; omega, by rw [Int.mul_add]; omega, ?_⟩
        rw [Int.add_mul_emod_self_left]
        exact Int.emod_eq_of_lt (by omega) (by omega)
      · refine ⟨r + m * (a / m), by omega, by omega, ?_⟩
        rw [Int.add_mul_emod_self_left]
        exact Int.emod_eq_of_lt (by omega) (by omega)
theorem mem_imgRaw {d m : Int} (hd : 0 < d) (hm : 0 < m) {l : List Span} (hl : ∀ s ∈ l, s.lo ≤ s.hi) {r : Int} : mem (imgRaw d m l) r ↔ ∃ x, mem l x ∧ x / d % m = r := by
  have base : ∀ s : Span, s.lo ≤ s.hi → ((∃ x, (s.lo ≤ x ∧ x ≤ s.hi) ∧ x / d % m = r) ↔ ∃ q, s.lo / d ≤ q ∧ q ≤ s.hi / d ∧ q % m = r) := by
    intro s hs
    constructor
    · rintro ⟨x, ⟨h1, h2⟩, h3⟩
      have := (ediv_span hd hs).1 ⟨x, h1, h2, rfl⟩
      exact ⟨_, this.1, this.2, h3⟩
    · rintro ⟨q, h1, h2, h3⟩
      obtain ⟨x, h4, h5, h6⟩ := (ediv_span hd hs).2 ⟨h1, h2⟩
      exact ⟨x, ⟨h4, h5⟩, by rw [h6]; exact h3⟩
  unfold imgRaw
  split
  · rename_i hw
    obtain ⟨s, hs, hw⟩ := List.any_eq_true.1 hw
    have hw : m - 1 ≤ s.hi / d - s.lo / d := of_decide_eq_true hw
    simp only [mem_cons, mem_nil, or_false]
    constructor
    · intro hr
      obtain ⟨x, h1, h2⟩ := (base s (hl s hs)).2 ((emod_wide hm hw).2 hr)
      exact ⟨x, ⟨s, hs, h1⟩, h2⟩
    · rintro ⟨x, _, rfl⟩
      have := Int.emod_nonneg (x / d) (show m ≠ 0 by omega)
      have := Int.emod_lt_of_pos (x / d) hm
      omega
  · rename_i hw
    have hw : ∀ s ∈ l, ¬ m - 1 ≤ s.hi / d - s.lo / d := by
      intro s hs hc
      exact hw (List.any_eq_true.2 ⟨s, hs, decide_eq_true hc⟩)
    have one : ∀ s ∈ l, (mem (imgOne d m s) r ↔ ∃ x, (s.lo ≤ x ∧ x ≤ s.hi) ∧ x / d % m = r) := by
      intro s hs
      rw [base s (hl s hs), emod_one hm (Int.ediv_le_ediv hd (hl s hs)) (hw s hs)]
      unfold imgOne
      split <;> simp [mem_cons, mem_nil]
    constructor
    · rintro ⟨t, ht, h1⟩
      obtain ⟨s, hs, ht⟩ := List.mem_flatMap.1 ht
      obtain ⟨x, h2, h3⟩ := (one s hs).1 ⟨t, ht, h1⟩
      exact ⟨x, ⟨s, hs, h2⟩, h3⟩
    · rintro ⟨x, ⟨s, hs, h2⟩, h3⟩
      obtain ⟨t, ht, h1⟩ := (one s hs).2 ⟨x, h2, h3⟩
      exact ⟨t, List.mem_flatMap.2 ⟨s, hs, ht⟩, h1⟩
def topS : List Span := [⟨0, 2097151⟩]
theorem mem_topS {x : Int} : mem topS x ↔ 0 ≤ x ∧ x ≤ 2097151 := by simp [topS, mem]
theorem inSet_topS {x : Int} : inSet topS x ↔ 0 ≤ x ∧ x ≤ 2097151 := by
  unfold inSet; rw [mem_topS]; omega
def upL (u : Int) (l : List Int) : List Span := l.map fun x => ⟨x * u, x * u⟩
theorem mem_upL {u : Int} {l : List Int} {z : Int} : mem (upL u l) z ↔ ∃ x ∈ l, z = x * u := by
  unfold upL mem
  constructor
  · rintro ⟨s, hs, h1, h2⟩
    obtain ⟨x, hx, rfl⟩ := List.mem_map.1 hs
    exact ⟨x, hx, by simp only at h1 h2; omega⟩
  · rintro ⟨x, hx, rfl⟩
    exact ⟨_, List.mem_map.2 ⟨x, hx, rfl⟩, Int.le_refl _, Int.le_refl _⟩
def imgN (p : Part) (s : List Span) : List Span := normF (imgRaw (pw p.drop) (pw p.take) (meetF s topS))
def imgF (p : Part) (s : List Span) : List Span := if p.up = 0 then imgN p s else normF (upL (pw p.up) (eachL (imgN p s)))
theorem imgF_plain (p : Part) (s : List Span) : plain (imgF p s) = true := by
  unfold imgF imgN; split <;> exact normF_plain _
theorem mem_imgN {p : Part} (h : bitsF p = true) {s : List Span} {z : Int} : mem (imgN p s) z ↔ ∃ x, (inSet s x ∧ 0 ≤ x ∧ x ≤ 2097151) ∧ x / pw p.drop % pw p.take = z := by
  have hb := bitsF_iff.1 h
  have ht := pw_21 hb.2.2.2.1
  have ht0 := pw_pos p.take
  unfold imgN
  rw [mem_normF, inSet, mem_imgRaw (pw_pos _) (pw_pos _) (fun s hs => (plainFrom_ok (meetF_plain _ _) s hs).1)]
  simp only [mem_meetF, inSet_topS]
  constructor
  · rintro ⟨_, h2⟩; exact h2
  · rintro ⟨x, h1, rfl⟩
    have := Int.emod_nonneg (x / pw p.drop) (show pw p.take ≠ 0 by omega)
    have := Int.emod_lt_of_pos (x / pw p.drop) ht0
    exact ⟨by omega, x, h1, rfl⟩
theorem mem_imgF {p : Part} (h : bitsF p = true) {s : List Span} {z : Int} : mem (imgF p s) z ↔ ∃ x, (inSet s x ∧ 0 ≤ x ∧ x ≤ 2097151) ∧ valF p x = z := by
  unfold imgF
  split
  · rename_i h0
    rw [mem_imgN h]
    unfold valF
    rw [h0, show pw 0 = 1 from rfl]
    simp only [Int.mul_one]
  · rw [mem_normF, inSet, mem_upL]
    simp only [mem_eachL, mem_imgN h]
    constructor
    · rintro ⟨_, y, ⟨x, h1, rfl⟩, rfl⟩
      exact ⟨x, h1, rfl⟩
    · rintro ⟨x, h1, rfl⟩
      have := valF_nonneg p x
      have := valF_le h x
      exact ⟨by omega, _, ⟨x, h1, rfl⟩, rfl⟩
/-! ### Runs of numbers, one behind the other -/
def runStep (out : List Span) (n : Int) : List Span :=
  match out.getLast? with
  | some t => if t.hi = n - 1 then out.dropLast ++ [⟨t.lo, n⟩] else out ++ [⟨n, n⟩]
  | none => out ++ [⟨n, n⟩]
def runsF (l : List Int) : List Span := l.foldl runStep []
def neL (l : List Span) : Prop := ∀ s ∈ l, s.lo ≤ s.hi
theorem runStep_spec {out : List Span} (h : neL out) (n : Int) : neL (runStep out n) ∧ (∀ z, mem (runStep out n) z ↔ mem out z ∨ z = n) ∧ (runStep out n).length ≤ out.length + 1 := by
  unfold runStep
  cases hq : out.getLast? with
  | none =>
    have : out = [] := by simpa using hq
    subst this
    refine ⟨fun s hs => ?_, fun z => ?_, by simp⟩
    · simp at hs; subst hs; exact Int.le_refl _
    · simp [mem]; omega
  | some t =>
    obtain ⟨ini, rfl⟩ := List.getLast?_eq_some_iff.1 hq
    have ht := h t (by simp)
    simp only [List.dropLast_concat]
    split
    · rename_i hc
      refine ⟨fun s hs => ?_, fun z => ?_, by simp⟩
      · rcases List.mem_append.1 hs with hs | hs
        · exact h s (List.mem_append_left _ hs)
        · simp at hs; subst hs; simp only; omega
      · simp only [mem_append, mem_cons, mem_nil, or_false, or_assoc]
        constructor
        · rintro (h1 | h1)
          · exact .inl h1
          · omega
        · rintro (h1 | h1)
          · exact .inl h1
          · right; omega
    · refine ⟨fun s hs => ?_, fun z => ?_, by simp⟩
      · rcases List.mem_append.1 hs with hs | hs
        · exact h s hs
        · simp at hs; subst hs; exact Int.le_refl _
      · simp only [mem_append, mem_cons, mem_nil, or_false]
        constructor
        · rintro (h1 | h1)
          · exact .inl h1
          · right; omega
        · rintro (h1 | h1)
          · exact .inl h1
          · right; omega
theorem foldRun_spec {l : List Int} : ∀ {out : List Span}, neL out → neL (l.foldl runStep out) ∧ (∀ z, mem (l.foldl runStep out) z ↔ mem out z ∨ z ∈ l) ∧ (l.foldl runStep out).length ≤ out.length + l.length := by
  induction l with
  | nil => intro out h; exact ⟨h, fun z => by simp, by simp⟩
  | cons n r ih =>
    intro out h
    obtain ⟨s1, s2, s3⟩ := runStep_spec h n
    obtain ⟨i1, i2, i3⟩ := ih s1
    refine ⟨i1, fun z => ?_, ?_⟩
    · rw [List.foldl_cons, i2, s2, List.mem_cons, or_assoc]
    · rw [List.foldl_cons]; simp only [List.length_cons]; omega
theorem mem_runsF {l : List Int} {z : Int} : mem (runsF l) z ↔ z ∈ l := by
  have := (foldRun_spec (l := l) (out := []) (fun s hs => by cases hs)).2.1 z
  unfold runsF
  simpa [mem_nil] using this
end Go.Um
