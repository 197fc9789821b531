/-
  What single operations do, told on states that are lists of pairs. No program is named here. What single operations do with lists and rows, told on states that are lists of pairs. No program is named here.
-/
import Derived.Test.YtofcjmjokokajaaGreatQh
namespace Go.Vm
open Go.RowKit
class TyI (P : Program) (t : TypeId) (i : outParam TI) : Prop where
  eq : tinfo P t = some i
class MkR {α : Type} (f : α → List V) (cs : List V) (y : outParam α) : Prop where
  eq : cs = f y
class FldAt (fs : List (Nat × TypeId)) (f : Nat) (o : outParam Nat) (t : outParam TypeId) : Prop where
  eq : fs[f]? = some (o, t)
instance {o : Nat} {t : TypeId} {r : List (Nat × TypeId)} : FldAt ((o, t) :: r) 0 o t := ⟨rfl⟩
instance {p : Nat × TypeId} {r : List (Nat × TypeId)} {f o : Nat} {t : TypeId} [h : FldAt r f o t] : FldAt (p :: r) (f + 1) o t := ⟨by rw [List.getElem?_cons_succ]; exact h.eq⟩
def FV (v w : V) : Prop := v = w
theorem FV.int {k n} : FV (.int k n) (.int k n) := rfl
theorem FV.bool {b} : FV (.bool b) (.bool b) := rfl
theorem FV.str {b} : FV (.str b) (.str b) := rfl
theorem FV.nil : FV .nil .nil := rfl
theorem FV.list {m xs} : FV (.list m xs) (.list m xs) := rfl
theorem FV.row {a b c d} : FV (.row a b c d) (.row a b c d) := rfl
theorem FV.nilptr : FV .nilptr .nilptr := rfl
theorem FV.ptr {a b c d} : FV (.ptr a b c d) (.ptr a b c d) := rfl
theorem FV.iptr {a} : FV (.iptr a) (.iptr a) := rfl
theorem FV.nilmap : FV .nilmap .nilmap := rfl
theorem FV.map {a} : FV (.map a) (.map a) := rfl
theorem FV.nilfunc : FV .nilfunc .nilfunc := rfl
theorem FV.func {a b c} : FV (.func a b c) (.func a b c) := rfl
theorem FV.agg {a} : FV (.agg a) (.agg a) := rfl
theorem FV.tuple {a} : FV (.tuple a) (.tuple a) := rfl
def nrow (t g k : Nat) : V := if k = 0 then .nil else .row t g 0 k
theorem FV.nrow {a b c} : FV (nrow a b c) (nrow a b c) := rfl
theorem FV.any : FV .any .any := rfl
inductive FL : List V → List V → Prop where
  | nil : FL [] []
  | cons {a a' l l'} (h0 : FV a a') (h : FL l l') : FL (a :: l) (a' :: l')
theorem FL.eq {l l' : List V} (h : FL l l') : l = l' := by induction h with | nil => rfl | cons h0 _ ih => rw [ih, show _ = _ from h0]
section
variable {P : Program} {E : AEnv} {S : ASt} {n : Nat}
theorem tk_eq {t : TypeId} {i : TI} [h : TyI P t i] : tk P t = some i.k := by unfold tk; rw [h.eq]; rfl
theorem ev_move {x : Operand} {v : V} (h : FV (aev E x) v := by first | exact FV.int | exact FV.list | exact FV.row | exact FV.bool | exact FV.agg | exact FV.nil | exact FV.ptr | exact FV.iptr | exact FV.str | exact FV.map | exact FV.tuple | exact FV.nilptr | exact FV.nilmap | exact FV.func | exact FV.nilfunc | exact FV.nrow) : Ev P E S n (.move x) v S n := ⟨[], by simp only [vop]; rw [show aev E x = v from h], rfl⟩
theorem ev_assign {x : Operand} {v : V} (h : FV (aev E x) v := by first | exact FV.int | exact FV.list | exact FV.row | exact FV.bool | exact FV.agg | exact FV.nil | exact FV.ptr | exact FV.iptr | exact FV.str | exact FV.map | exact FV.tuple | exact FV.nilptr | exact FV.nilmap | exact FV.func | exact FV.nilfunc | exact FV.nrow) : Ev P E S n (.assign x) v S n := ⟨[], by simp only [vop]; rw [show aev E x = v from h], rfl⟩
theorem ev_nilptr {x : Operand} {id g i o : Nat} (h : aev E x = .ptr id g i o := by rfl) : Ev P E S n (.nilCheck x) (.ptr id g i o) S n := ⟨[], by simp only [vop, h], rfl⟩
theorem ev_niliptr {x : Operand} {cs : List V} (h : aev E x = .iptr cs := by rfl) : Ev P E S n (.nilCheck x) (.iptr cs) S n := ⟨[], by simp only [vop, h], rfl⟩
theorem ev_pick_t {c a b : Operand} {v : V} (hc : aev E c = .bool true := by rfl) (ha : FV (aev E a) v := by first | exact FV.bool | exact FV.int | exact FV.str | exact FV.nil | exact FV.list | exact FV.row) : Ev P E S n (.pick c a b) v S n := ⟨[], by simp only [vop, hc]; rw [show aev E a = v from ha]; rfl, rfl⟩
theorem ev_pick_f {c a b : Operand} {v : V} (hc : aev E c = .bool false := by rfl) (ha : FV (aev E b) v := by first | exact FV.bool | exact FV.int | exact FV.str | exact FV.nil | exact FV.list | exact FV.row) : Ev P E S n (.pick c a b) v S n := ⟨[], by simp only [vop, hc]; rw [show aev E b = v from ha]; rfl, rfl⟩
theorem ev_bin {op : BinOp} {t ty : TypeId} {x y : Operand} {k : IntKind} {a b : Int} {v : V} (hx : aev E x = .int k a := by rfl) (hy : aev E y = .int k b := by rfl) (h : vint op k a b = some v := by rfl) : Ev P E S n (.binOp op t x y ty) v S n := ⟨[], by
  have : vbin op (tk P t) (flatEq P t) (.int k a) (.int k b) = some v := by
    unfold vbin
    cases op <;> simp only [if_true] <;> exact h
  simp only [vop, hx, hy, this, Option.map_some], rfl⟩
theorem ev_add {t ty : TypeId} {x y : Operand} {a b : Int} (hx : aev E x = .int .i64 a := by rfl) (hy : aev E y = .int .i64 b := by rfl) (h1 : -9223372036854775808 ≤ a + b ∧ a + b ≤ 9223372036854775807 := by first | omega | (dsimp only; omega)) : Ev P E S n (.binOp .add t x y ty) (.int .i64 (a + b)) S n :=
  ev_bin hx hy (by simp only [vint]; rw [wrap_in h1.1 h1.2])
theorem ev_sub {t ty : TypeId} {x y : Operand} {a b : Int} (hx : aev E x = .int .i64 a := by rfl) (hy : aev E y = .int .i64 b := by rfl) (h1 : -9223372036854775808 ≤ a - b ∧ a - b ≤ 9223372036854775807 := by first | omega | (dsimp only; omega)) : Ev P E S n (.binOp .sub t x y ty) (.int .i64 (a - b)) S n :=
  ev_bin hx hy (by simp only [vint]; rw [wrap_in h1.1 h1.2])
theorem ev_eql {t ty : TypeId} {x y : Operand} {k : IntKind} {a b : Int} (hx : aev E x = .int k a := by rfl) (hy : aev E y = .int k b := by rfl) : Ev P E S n (.binOp .eql t x y ty) (.bool (decide (a = b))) S n :=
  ev_bin hx hy (by simp only [vint]; congr 1)
theorem ev_neq {t ty : TypeId} {x y : Operand} {k : IntKind} {a b : Int} (hx : aev E x = .int k a := by rfl) (hy : aev E y = .int k b := by rfl) : Ev P E S n (.binOp .neq t x y ty) (.bool (decide (a ≠ b))) S n :=
  ev_bin hx hy (by simp only [vint, bne]; congr 2; simp [BEq.beq])
theorem ev_aggeq {t ty : TypeId} {x y : Operand} {xs ys : List V} (hx : aev E x = .agg xs := by rfl) (hy : aev E y = .agg ys := by rfl) (hk : sameK xs ys = true := by rfl) (hf : flatEq P t = some xs.length := by kernel_rfl) : Ev P E S n (.binOp .eql t x y ty) (.bool (decide (intsOf xs = intsOf ys))) S n := ⟨[], by
  simp only [vop, hx, hy, vbin, hf, hk, and_self, if_true, Option.map_some], rfl⟩
theorem ev_aggneq {t ty : TypeId} {x y : Operand} {xs ys : List V} (hx : aev E x = .agg xs := by rfl) (hy : aev E y = .agg ys := by rfl) (hk : sameK xs ys = true := by rfl) (hf : flatEq P t = some xs.length := by kernel_rfl) : Ev P E S n (.binOp .neq t x y ty) (.bool (decide (intsOf xs ≠ intsOf ys))) S n := ⟨[], by
  simp only [vop, hx, hy, vbin, hf, hk, and_self, if_true, Option.map_some], rfl⟩
theorem ev_shift {op : BinOp} {t ty : TypeId} {x y : Operand} {k k' : IntKind} {a b : Int} {v : V} (ho : (op = .shl ∨ op = .shr)) (hx : aev E x = .int k a := by rfl) (hy : aev E y = .int k' b := by rfl) (h : vint op k a b = some v := by rfl) : Ev P E S n (.binOp op t x y ty) v S n := ⟨[], by
  have : vbin op (tk P t) (flatEq P t) (.int k a) (.int k' b) = some v := by
    unfold vbin
    rcases ho with rfl | rfl <;> exact h
  simp only [vop, hx, hy, this, Option.map_some], rfl⟩
theorem ev_strop {op : BinOp} {t ty : TypeId} {x y : Operand} {a b : ByteArray} {v : V} (hx : aev E x = .str a := by rfl) (hy : aev E y = .str b := by rfl) (h : vstr op a b = some v := by rfl) : Ev P E S n (.binOp op t x y ty) v S n := ⟨[], by
  have : vbin op (tk P t) (flatEq P t) (.str a) (.str b) = some v := h
  simp only [vop, hx, hy, this, Option.map_some], rfl⟩
theorem ev_booleq {t ty : TypeId} {x y : Operand} {a b : Bool} {sz by' ag z} [h : TyI P t ⟨.bool, sz, by', ag, z⟩] (hx : aev E x = .bool a := by rfl) (hy : aev E y = .bool b := by rfl) : Ev P E S n (.binOp .eql t x y ty) (.bool (a == b)) S n := ⟨[], by
  simp only [vop, hx, hy, tk_eq (h := h), vbin, Option.map_some], rfl⟩
theorem ev_boolneq {t ty : TypeId} {x y : Operand} {a b : Bool} {sz by' ag z} [h : TyI P t ⟨.bool, sz, by', ag, z⟩] (hx : aev E x = .bool a := by rfl) (hy : aev E y = .bool b := by rfl) : Ev P E S n (.binOp .neq t x y ty) (.bool !(a == b)) S n := ⟨[], by
  simp only [vop, hx, hy, tk_eq (h := h), vbin, Option.map_some], rfl⟩
theorem ev_un {op : UnOp} {t : TypeId} {x : Operand} {u v : V} (hx : FV (aev E x) u := by first | exact FV.int | exact FV.list | exact FV.row | exact FV.bool | exact FV.agg | exact FV.nil | exact FV.ptr | exact FV.iptr | exact FV.str | exact FV.map | exact FV.tuple | exact FV.nilptr | exact FV.nilmap | exact FV.func | exact FV.nilfunc | exact FV.nrow) (h : vun op u = some v := by rfl) : Ev P E S n (.unOp op t x) v S n := ⟨[], by simp only [vop]; rw [show aev E x = u from hx, h]; rfl, rfl⟩
theorem ev_conv {src dst : TypeId} {x : Operand} {u v : V} (hx : FV (aev E x) u := by first | exact FV.int | exact FV.list | exact FV.row | exact FV.bool | exact FV.agg | exact FV.nil | exact FV.ptr | exact FV.iptr | exact FV.str | exact FV.map | exact FV.tuple | exact FV.nilptr | exact FV.nilmap | exact FV.func | exact FV.nilfunc | exact FV.nrow) (h : vconv P (slk S) src dst u = some v) : Ev P E S n (.convert src dst x) v S n := ⟨[], by simp only [vop]; rw [show aev E x = u from hx, h]; rfl, rfl⟩
theorem ev_convint {src dst : TypeId} {x : Operand} {k k' : IntKind} {z : Int} {i : TI} {sz by' ag zz} [hs : TyI P src i] [hd : TyI P dst ⟨.int k, sz, by', ag, zz⟩] (hx : aev E x = .int k' z := by rfl) : Ev P E S n (.convert src dst x) (.int k (k.wrap z)) S n :=
  ev_conv hx (by unfold vconv; rw [hs.eq, hd.eq])
theorem ev_func {f : Fn} : Ev P E S n (.makeFunc f #[] #[]) (.func f [] []) S n := ⟨[], rfl, rfl⟩
theorem ev_func1 {f : Fn} {x : Operand} {v : V} (h : FV (aev E x) v := by first | exact FV.int | exact FV.list | exact FV.row | exact FV.bool | exact FV.agg | exact FV.nil | exact FV.ptr | exact FV.iptr | exact FV.str | exact FV.map | exact FV.tuple | exact FV.nilptr | exact FV.nilmap | exact FV.func | exact FV.nilfunc | exact FV.nrow) : Ev P E S n (.makeFunc f #[] #[x]) (.func f [] [v]) S n := ⟨[], by simp only [vop, List.map_cons, List.map_nil]; rw [show aev E x = v from h], rfl⟩
theorem ev_func2 {f : Fn} {x y : Operand} {v w : V} (h : FV (aev E x) v := by first | exact FV.int | exact FV.list | exact FV.row | exact FV.bool | exact FV.agg | exact FV.nil | exact FV.ptr | exact FV.iptr | exact FV.str | exact FV.map | exact FV.tuple | exact FV.nilptr | exact FV.nilmap | exact FV.func | exact FV.nilfunc | exact FV.nrow) (h' : FV (aev E y) w := by first | exact FV.int | exact FV.list | exact FV.row | exact FV.bool | exact FV.agg | exact FV.nil | exact FV.ptr | exact FV.iptr | exact FV.str | exact FV.map | exact FV.tuple | exact FV.nilptr | exact FV.nilmap | exact FV.func | exact FV.nilfunc | exact FV.nrow) : Ev P E S n (.makeFunc f #[] #[x, y]) (.func f [] [v, w]) S n := ⟨[], by simp only [vop, List.map_cons, List.map_nil]; rw [show aev E x = v from h, show aev E y = w from h'], rfl⟩
theorem ev_func3 {f : Fn} {x y z : Operand} {v w u : V} (h : FV (aev E x) v := by first | exact FV.int | exact FV.list | exact FV.row | exact FV.bool | exact FV.agg | exact FV.nil | exact FV.ptr | exact FV.iptr | exact FV.str | exact FV.map | exact FV.tuple | exact FV.nilptr | exact FV.nilmap | exact FV.func | exact FV.nilfunc | exact FV.nrow) (h' : FV (aev E y) w := by first | exact FV.int | exact FV.list | exact FV.row | exact FV.bool | exact FV.agg | exact FV.nil | exact FV.ptr | exact FV.iptr | exact FV.str | exact FV.map | exact FV.tuple | exact FV.nilptr | exact FV.nilmap | exact FV.func | exact FV.nilfunc | exact FV.nrow) (h2 : FV (aev E z) u := by first | exact FV.int | exact FV.list | exact FV.row | exact FV.bool | exact FV.agg | exact FV.nil | exact FV.ptr | exact FV.iptr | exact FV.str | exact FV.map | exact FV.tuple | exact FV.nilptr | exact FV.nilmap | exact FV.func | exact FV.nilfunc | exact FV.nrow) : Ev P E S n (.makeFunc f #[] #[x, y, z]) (.func f [] [v, w, u]) S n := ⟨[], by simp only [vop, List.map_cons, List.map_nil]; rw [show aev E x = v from h, show aev E y = w from h', show aev E z = u from h2], rfl⟩
theorem ev_extract {x : Operand} {i : Nat} {vs : List V} {v : V} (hx : aev E x = .tuple vs := by rfl) (h : vs[i]? = some v := by rfl) : Ev P E S n (.extract x i) v S n := ⟨[], by simp only [vop, hx, h, Option.map_some], rfl⟩
theorem upd_one (id : Nat) (b : Blk) : upd (slk S) [(id, b)] = slk ((id, some b) :: S) := by simp only [upd, slk_cons]
theorem ev_alloc {e : TypeId} {k : TK} {sz by' : Nat} {cs : List V} [h : TyI P e ⟨k, sz, by', true, some (.agg cs)⟩] (hl : cs.length = sz := by first | rfl | assumption | (simp; done) | fail) (ho : (Nat.blt 0 cs.length && cs.all V.one) = true := by first | rfl | (simp only [Bool.and_eq_true, Nat.ble_eq, Nat.blt_eq, Nat.beq_eq, true_and, and_true, Nat.le_refl, and_self]; (try omega); done) | fail) : Ev P E S n (.alloc e) (.ptr n 0 0 0) ((n, some (.cells e sz 0 0 [cs])) :: S) (n + 1) := ⟨[(n, .cells e sz 0 0 [cs])], by
  simp only [Bool.and_eq_true, Nat.blt_eq] at ho
  simp only [vop, h.eq, vcells, hl, if_true, valloc]
  rw [if_pos ⟨by omega, ho.2⟩], upd_one _ _⟩
theorem ev_alloc1 {e : TypeId} {k : TK} {by' : Nat} {z : V} [h : TyI P e ⟨k, 1, by', false, some z⟩] (hz : vcells z = [z] := by rfl) (ho : z.one = true := by rfl) : Ev P E S n (.alloc e) (.ptr n 0 0 0) ((n, some (.cells e 1 0 0 [[z]])) :: S) (n + 1) := ⟨[(n, .cells e 1 0 0 [[z]])], by
  simp only [vop, h.eq, hz, List.length_singleton, if_true, valloc, List.all_cons, ho, List.all_nil, Bool.and_self, and_self, Nat.lt_add_one], upd_one _ _⟩
theorem ev_box {e : TypeId} {x : Operand} {cs : List V} (hx : aev E x = .agg cs := by rfl) (ho : (Nat.blt 0 cs.length && cs.all V.one) = true := by first | rfl | (simp only [Bool.and_eq_true, Nat.ble_eq, Nat.blt_eq, Nat.beq_eq, true_and, and_true, Nat.le_refl, and_self]; (try omega); done) | fail) : Ev P E S n (.box e x) (.ptr n 0 0 0) ((n, some (.cells e cs.length 0 0 [cs])) :: S) (n + 1) := ⟨[(n, .cells e cs.length 0 0 [cs])], by
  simp only [Bool.and_eq_true, Nat.blt_eq] at ho
  simp only [vop, hx, vcells, valloc]
  rw [if_pos ho], upd_one _ _⟩
theorem ev_box1 {e : TypeId} {x : Operand} {v : V} (hx : FV (aev E x) v := by first | exact FV.int | exact FV.list | exact FV.row | exact FV.bool | exact FV.agg | exact FV.nil | exact FV.ptr | exact FV.iptr | exact FV.str | exact FV.map | exact FV.tuple | exact FV.nilptr | exact FV.nilmap | exact FV.func | exact FV.nilfunc | exact FV.nrow) (hv : vcells v = [v] := by rfl) (ho : v.one = true := by rfl) : Ev P E S n (.box e x) (.ptr n 0 0 0) ((n, some (.cells e 1 0 0 [[v]])) :: S) (n + 1) := ⟨[(n, .cells e 1 0 0 [[v]])], by
  simp only [vop]
  rw [show aev E x = v from hx]
  simp only [hv, valloc, List.length_singleton, List.all_cons, ho, List.all_nil, Bool.and_self, and_self, Nat.lt_add_one, if_true], upd_one _ _⟩
theorem ev_load_box {t : TypeId} {a : Operand} {id g o m G L : Nat} {e : TypeId} {cs : List V} {v w : V} {k : TK} {by' : Nat} {z : Option V} [h : TyI P t ⟨k, 1, by', false, z⟩] (ha : aev E a = .ptr id g 0 o := by rfl) (hs : slk S id = some (.cells e m G L [cs]) := by rfl) (hg : (Nat.ble L g && Nat.ble g G) = true := by first | rfl | (simp only [Bool.and_eq_true, Nat.ble_eq, Nat.blt_eq, Nat.beq_eq, true_and, and_true, Nat.le_refl, and_self]; (try omega); done) | fail) (hv : cs[o]? = some v := by rfl) (hw : FV v w := by first | exact FV.int | exact FV.list | exact FV.row | exact FV.bool | exact FV.agg | exact FV.nil | exact FV.ptr | exact FV.iptr | exact FV.str | exact FV.map | exact FV.tuple | exact FV.nilptr | exact FV.nilmap | exact FV.func | exact FV.nilfunc | exact FV.nrow) : Ev P E S n (.load t a) w S n := ⟨[], by
  simp only [Bool.and_eq_true, Nat.ble_eq] at hg
  cases hw
  simp only [vop, h.eq, ha, vload, hs, if_pos hg, List.getElem?_cons_zero, Option.bind_some, vpart, hv]
  rfl, rfl⟩
theorem ev_load_all {t : TypeId} {a : Operand} {id g m G L : Nat} {e : TypeId} {cs : List V} {k : TK} {by' : Nat} {z : Option V} [h : TyI P t ⟨k, m, by', true, z⟩] (ha : aev E a = .ptr id g 0 0 := by rfl) (hs : slk S id = some (.cells e m G L [cs]) := by rfl) (hg : (Nat.ble L g && Nat.ble g G) = true := by first | rfl | (simp only [Bool.and_eq_true, Nat.ble_eq, Nat.blt_eq, Nat.beq_eq, true_and, and_true, Nat.le_refl, and_self]; (try omega); done) | fail) (hl : cs.length = m := by first | rfl | assumption | (simp; done) | fail) : Ev P E S n (.load t a) (.agg cs) S n := ⟨[], by
  simp only [Bool.and_eq_true, Nat.ble_eq] at hg
  subst hl
  simp only [vop, h.eq, ha, vload, hs, if_pos hg, List.getElem?_cons_zero, Option.bind_some, vpart, Nat.zero_add, Nat.le_refl, if_true, List.drop_zero, List.take_length]
  rfl, rfl⟩
theorem ev_load_part {t : TypeId} {a : Operand} {id g o m G L sz : Nat} {e : TypeId} {cs ds : List V} {k : TK} {by' : Nat} {z : Option V} [h : TyI P t ⟨k, sz, by', true, z⟩] (ha : aev E a = .ptr id g 0 o := by rfl) (hs : slk S id = some (.cells e m G L [cs]) := by rfl) (hg : (Nat.ble L g && Nat.ble g G && Nat.ble (o + sz) cs.length) = true := by first | rfl | (simp only [Bool.and_eq_true, Nat.ble_eq, Nat.blt_eq, Nat.beq_eq, true_and, and_true, Nat.le_refl, and_self]; (try omega); done) | fail) (hd : FL ((cs.drop o).take sz) ds := by first | ((repeat' (first | exact FL.nil | exact FV.int | exact FV.list | exact FV.row | exact FV.bool | exact FV.nil | exact FV.str | exact FV.ptr | exact FV.iptr | exact FV.map | exact FV.func | exact FV.nilptr | exact FV.nilmap | exact FV.nilfunc | exact FV.nrow | apply FL.cons)); done) | fail) : Ev P E S n (.load t a) (.agg ds) S n := ⟨[], by
  simp only [Bool.and_eq_true, Nat.ble_eq] at hg
  rw [← hd.eq]
  simp only [vop, h.eq, ha, vload, hs, if_pos hg.1, List.getElem?_cons_zero, Option.bind_some, vpart, if_true, if_pos hg.2]
  rfl, rfl⟩
theorem ev_iload {t : TypeId} {a : Operand} {cs : List V} {v w : V} {k : TK} {by' : Nat} {z : Option V} [h : TyI P t ⟨k, 1, by', false, z⟩] (ha : aev E a = .iptr cs := by rfl) (hv : cs[0]? = some v := by rfl) (hw : FV v w := by first | exact FV.int | exact FV.list | exact FV.row | exact FV.bool | exact FV.agg | exact FV.nil | exact FV.ptr | exact FV.iptr | exact FV.str | exact FV.map | exact FV.tuple | exact FV.nilptr | exact FV.nilmap | exact FV.func | exact FV.nilfunc | exact FV.nrow) : Ev P E S n (.load t a) w S n := ⟨[], by
  cases hw
  simp only [vop, h.eq, ha, vload, vpart, Bool.false_eq_true, if_false, hv, Option.map_some], rfl⟩
theorem ev_iload_all {t : TypeId} {a : Operand} {cs : List V} {k : TK} {sz by' : Nat} {z : Option V} [h : TyI P t ⟨k, sz, by', true, z⟩] (ha : aev E a = .iptr cs := by rfl) (hl : cs.length = sz := by first | rfl | assumption | (simp; done) | fail) : Ev P E S n (.load t a) (.agg cs) S n := ⟨[], by
  subst hl
  simp only [vop, h.eq, ha, vload, vpart, Nat.zero_add, Nat.le_refl, if_true, List.drop_zero, List.take_length, Option.map_some], rfl⟩
theorem ev_iload_part {t : TypeId} {a : Operand} {cs ds : List V} {k : TK} {sz by' : Nat} {z : Option V} [h : TyI P t ⟨k, sz, by', true, z⟩] (ha : aev E a = .iptr cs := by rfl) (hl : Nat.ble (0 + sz) cs.length = true := by first | rfl | (simp only [Bool.and_eq_true, Nat.ble_eq, Nat.blt_eq, Nat.beq_eq, true_and, and_true, Nat.le_refl, and_self]; (try omega); done) | fail) (hd : FL ((cs.drop 0).take sz) ds := by first | ((repeat' (first | exact FL.nil | exact FV.int | exact FV.list | exact FV.row | exact FV.bool | exact FV.nil | exact FV.str | exact FV.ptr | exact FV.iptr | exact FV.map | exact FV.func | exact FV.nilptr | exact FV.nilmap | exact FV.nilfunc | exact FV.nrow | apply FL.cons)); done) | fail) : Ev P E S n (.load t a) (.agg ds) S n := ⟨[], by
  rw [← hd.eq]
  simp only [Nat.ble_eq] at hl
  simp only [vop, h.eq, ha, vload, vpart, if_true, if_pos hl, Option.map_some], rfl⟩
theorem ev_store_box {t : TypeId} {a x : Operand} {id g o m G L sz : Nat} {e : TypeId} {cs ds vs : List V} {v : V} {k : TK} {by' : Nat} {ag : Bool} {z : Option V} [h : TyI P t ⟨k, sz, by', ag, z⟩] (ha : aev E a = .ptr id g 0 o := by rfl) (hx : FV (aev E x) v := by first | exact FV.int | exact FV.list | exact FV.row | exact FV.bool | exact FV.agg | exact FV.nil | exact FV.ptr | exact FV.iptr | exact FV.str | exact FV.map | exact FV.tuple | exact FV.nilptr | exact FV.nilmap | exact FV.func | exact FV.nilfunc | exact FV.nrow) (hs : slk S id = some (.cells e m G L [cs]) := by rfl) (hvs : vcells v = vs := by rfl) (hg : Nat.beq g G = true := by first | rfl | (simp only [Bool.and_eq_true, Nat.ble_eq, Nat.blt_eq, Nat.beq_eq, true_and, and_true, Nat.le_refl, and_self]; (try omega); done) | fail) (hl : (Nat.beq vs.length sz && Nat.ble (o + sz) m) = true := by rfl) (ho : vs.all V.one = true := by rfl) (hd : FL (splice cs o vs) ds := by first | ((repeat' (first | exact FL.nil | exact FV.int | exact FV.list | exact FV.row | exact FV.bool | exact FV.nil | exact FV.str | exact FV.ptr | exact FV.iptr | exact FV.map | exact FV.func | exact FV.nilptr | exact FV.nilmap | exact FV.nilfunc | exact FV.nrow | apply FL.cons)); done) | fail) : Ev P E S n (.store t a x) (.tuple []) ((id, some (.cells e m G G [ds])) :: S) n := ⟨[(id, .cells e m G G [ds])], by
  simp only [Bool.and_eq_true, Nat.ble_eq, Nat.beq_eq] at hg hl
  obtain ⟨h2, h3⟩ := hl
  have h1 := hg
  rw [← hd.eq]
  simp only [vop, h.eq, ha, vstore, hs]
  rw [show aev E x = v from hx, hvs, if_pos ⟨h1, h2, h3, ho⟩]
  rfl, upd_one _ _⟩
theorem ev_field_ptr {s : TypeId} {x : Operand} {f id g i o of' m G L : Nat} {e ft : TypeId} {xs : List (List V)} {fs : List (Nat × TypeId)} {sz by' : Nat} {ag : Bool} {z : Option V} {fi : TI} [h : TyI P s ⟨.struct fs, sz, by', ag, z⟩] [hf : FldAt fs f of' ft] [h2 : TyI P ft fi] (h0 : Nat.blt 0 fi.size = true := by first | rfl | (simp only [Bool.and_eq_true, Nat.ble_eq, Nat.blt_eq, Nat.beq_eq, true_and, and_true, Nat.le_refl, and_self]; (try omega); done) | fail) (hx : aev E x = .ptr id g i o := by rfl) (hs : slk S id = some (.cells e m G L xs) := by rfl) (hg : (Nat.blt (o + of') m && Nat.ble L g && Nat.ble g G) = true := by first | rfl | (simp only [Bool.and_eq_true, Nat.ble_eq, Nat.blt_eq, Nat.beq_eq, true_and, and_true, Nat.le_refl, and_self]; (try omega); done) | fail) : Ev P E S n (.fieldAddr s x f) (.ptr id g i (o + of')) S n := ⟨[], by
  simp only [Bool.and_eq_true, Nat.ble_eq, Nat.blt_eq] at hg h0
  simp only [vop, tk_eq (h := h), hf.eq, h2.eq, hx, vshift, hs]
  rw [if_neg (by omega), if_pos ⟨hg.1.1, hg.1.2, hg.2⟩]
  rfl, rfl⟩
theorem ev_field_iptr {s : TypeId} {x : Operand} {f of' : Nat} {ft : TypeId} {cs : List V} {fs : List (Nat × TypeId)} {sz by' : Nat} {ag : Bool} {z : Option V} {fi : TI} [h : TyI P s ⟨.struct fs, sz, by', ag, z⟩] [hf : FldAt fs f of' ft] [h2 : TyI P ft fi] (h0 : Nat.blt 0 fi.size = true := by first | rfl | (simp only [Bool.and_eq_true, Nat.ble_eq, Nat.blt_eq, Nat.beq_eq, true_and, and_true, Nat.le_refl, and_self]; (try omega); done) | fail) (hx : aev E x = .iptr cs := by rfl) (hg : Nat.blt of' cs.length = true := by first | rfl | (simp only [Bool.and_eq_true, Nat.ble_eq, Nat.blt_eq, Nat.beq_eq, true_and, and_true, Nat.le_refl, and_self]; (try omega); done) | fail) : Ev P E S n (.fieldAddr s x f) (.iptr (cs.drop of')) S n := ⟨[], by
  simp only [Nat.blt_eq] at hg h0
  simp only [vop, tk_eq (h := h), hf.eq, h2.eq, hx, vshift]
  rw [if_neg (by omega), if_pos hg]
  rfl, rfl⟩
theorem ev_field {s : TypeId} {x : Operand} {f of' : Nat} {ft : TypeId} {cs : List V} {v w : V} {fs : List (Nat × TypeId)} {sz by' : Nat} {ag : Bool} {z z' : Option V} {k' : TK} {by2 : Nat} [h : TyI P s ⟨.struct fs, sz, by', ag, z⟩] [hf : FldAt fs f of' ft] [h2 : TyI P ft ⟨k', 1, by2, false, z'⟩] (hx : aev E x = .agg cs := by rfl) (hv : cs[of']? = some v := by rfl) (hw : FV v w := by first | exact FV.int | exact FV.list | exact FV.row | exact FV.bool | exact FV.agg | exact FV.nil | exact FV.ptr | exact FV.iptr | exact FV.str | exact FV.map | exact FV.tuple | exact FV.nilptr | exact FV.nilmap | exact FV.func | exact FV.nilfunc | exact FV.nrow) : Ev P E S n (.field s x f) w S n := ⟨[], by
  cases hw
  simp only [vop, tk_eq (h := h), hf.eq, h2.eq, hx, vpart, Bool.false_eq_true, if_false, hv, Option.map_some], rfl⟩
theorem ev_field_agg {s : TypeId} {x : Operand} {f of' sz2 : Nat} {ft : TypeId} {cs ds : List V} {fs : List (Nat × TypeId)} {sz by' : Nat} {ag : Bool} {z z' : Option V} {k' : TK} {by2 : Nat} [h : TyI P s ⟨.struct fs, sz, by', ag, z⟩] [hf : FldAt fs f of' ft] [h2 : TyI P ft ⟨k', sz2, by2, true, z'⟩] (hx : aev E x = .agg cs := by rfl) (hg : Nat.ble (of' + sz2) cs.length = true := by first | rfl | (simp only [Bool.and_eq_true, Nat.ble_eq, Nat.blt_eq, Nat.beq_eq, true_and, and_true, Nat.le_refl, and_self]; (try omega); done) | fail) (hd : FL ((cs.drop of').take sz2) ds := by first | ((repeat' (first | exact FL.nil | exact FV.int | exact FV.list | exact FV.row | exact FV.bool | exact FV.nil | exact FV.str | exact FV.ptr | exact FV.iptr | exact FV.map | exact FV.func | exact FV.nilptr | exact FV.nilmap | exact FV.nilfunc | exact FV.nrow | apply FL.cons)); done) | fail) : Ev P E S n (.field s x f) (.agg ds) S n := ⟨[], by
  rw [← hd.eq]
  simp only [Nat.ble_eq] at hg
  simp only [vop, tk_eq (h := h), hf.eq, h2.eq, hx, vpart, if_true, if_pos hg, Option.map_some], rfl⟩
end
end Go.Vm
namespace Go.Vm
open Go.RowKit
section
variable {P : Program} {E : AEnv} {S : ASt} {n : Nat}
theorem elem_map {α : Type} {f : α → List V} {xs : List α} {i : Nat} {a : α} (h : xs[i]? = some a) : (xs.map f)[i]? = some (f a) := by rw [List.getElem?_map, h]; rfl
section
variable {t e : TypeId} {x i a : Operand} {sz by' : Nat} {ag : Bool} {z : Option V} {ei : TI} [h : TyI P t ⟨.slice e, sz, by', ag, z⟩] [h2 : TyI P e ei]
include h h2
theorem ev_idx_raw {m : Nat} {xs : List (List V)} {k : IntKind} {j : Int} {cs : List V} (hm : ei.size = m := by rfl) (hx : aev E x = .list m xs := by rfl) (hi : aev E i = .int k j := by rfl) (h0 : 0 ≤ j := by omega) (ha : xs[j.toNat]? = some cs := by first | assumption | rfl) : Ev P E S n (.indexAddr t x i) (.iptr cs) S n := ⟨[], by
  subst hm
  simp only [vop, tk_eq (h := h), hi, h2.eq, if_pos h0, hx, if_true, ha, Option.map_some], rfl⟩
theorem ev_idx {α : Type} {f : α → List V} {xs : List α} {m : Nat} {k : IntKind} {j : Int} {y : α} (hm : ei.size = m := by rfl) (hx : aev E x = .list m (xs.map f) := by rfl) (hi : aev E i = .int k j := by rfl) (h0 : 0 ≤ j := by omega) (ha : xs[j.toNat]? = some y := by first | assumption | rfl) : Ev P E S n (.indexAddr t x i) (.iptr (f y)) S n :=
  ev_idx_raw hm hx hi h0 (elem_map ha)
theorem ev_idx_get {α : Type} {f : α → List V} {xs : List α} {m : Nat} {k : IntKind} {j : Int} (hm : ei.size = m := by rfl) (hx : aev E x = .list m (xs.map f) := by rfl) (hi : aev E i = .int k j := by rfl) (h0 : 0 ≤ j := by omega) (hl : j.toNat < xs.length := by omega) : Ev P E S n (.indexAddr t x i) (.iptr (f xs[j.toNat])) S n :=
  ev_idx_raw hm hx hi h0 (elem_map (List.getElem?_eq_getElem hl))
theorem ev_idx_row0 {id g kk m G L : Nat} {e' : TypeId} {xs : List (List V)} {k : IntKind} {j : Int} (hx : aev E x = .row id g 0 kk := by rfl) (hs : slk S id = some (.cells e' m G L xs) := by rfl) (hi : aev E i = .int k j := by rfl) (hg : (Nat.beq m ei.size && Nat.ble L g && Nat.ble g G) = true := by first | rfl | (simp only [Bool.and_eq_true, Nat.ble_eq, Nat.blt_eq, Nat.beq_eq, true_and, and_true, Nat.le_refl, and_self]; (try omega); done) | fail) (h0 : 0 ≤ j := by omega) (hl : j.toNat < kk := by omega) : Ev P E S n (.indexAddr t x i) (.ptr id g j.toNat 0) S n := ⟨[], by
  simp only [Bool.and_eq_true, Nat.ble_eq, Nat.beq_eq] at hg
  simp only [vop, tk_eq (h := h), hi, h2.eq, if_pos h0, hx, hs]
  rw [if_pos ⟨hg.1.1, hl, hg.1.2, hg.2⟩, Nat.zero_add], rfl⟩
theorem ev_idx_nat {id g kk m G L j : Nat} {e' : TypeId} {xs : List (List V)} {k : IntKind} (hx : aev E x = .row id g 0 kk := by rfl) (hs : slk S id = some (.cells e' m G L xs) := by rfl) (hi : aev E i = .int k (j : Int) := by rfl) (hg : (Nat.beq m ei.size && Nat.ble L g && Nat.ble g G) = true := by first | rfl | (simp only [Bool.and_eq_true, Nat.ble_eq, Nat.blt_eq, Nat.beq_eq, true_and, and_true, Nat.le_refl, and_self]; (try omega); done) | fail) (hl : j < kk := by omega) : Ev P E S n (.indexAddr t x i) (.ptr id g j 0) S n :=
  ev_idx_row0 hx hs hi hg (Int.natCast_nonneg j) hl
theorem ev_idx_row {id g i0 kk m G L : Nat} {e' : TypeId} {xs : List (List V)} {k : IntKind} {j : Int} (hx : aev E x = .row id g i0 kk := by rfl) (hs : slk S id = some (.cells e' m G L xs) := by rfl) (hi : aev E i = .int k j := by rfl) (hg : (Nat.beq m ei.size && Nat.ble L g && Nat.ble g G) = true := by first | rfl | (simp only [Bool.and_eq_true, Nat.ble_eq, Nat.blt_eq, Nat.beq_eq, true_and, and_true, Nat.le_refl, and_self]; (try omega); done) | fail) (h0 : 0 ≤ j := by omega) (hl : j.toNat < kk := by omega) : Ev P E S n (.indexAddr t x i) (.ptr id g (i0 + j.toNat) 0) S n := ⟨[], by
  simp only [Bool.and_eq_true, Nat.ble_eq, Nat.beq_eq] at hg
  simp only [vop, tk_eq (h := h), hi, h2.eq, if_pos h0, hx, hs]
  rw [if_pos ⟨hg.1.1, hl, hg.1.2, hg.2⟩], rfl⟩
end
section
variable {t : TypeId} {a : Operand} {id g i o m G L : Nat} {e : TypeId} {cs : List V} {xs : List (List V)} {by' : Nat} {z : Option V} {k : TK}
theorem ev_load_raw {v w : V} [h : TyI P t ⟨k, 1, by', false, z⟩] (ha : aev E a = .ptr id g i o := by rfl) (hs : slk S id = some (.cells e m G L xs) := by rfl) (hg : (Nat.ble L g && Nat.ble g G) = true := by first | rfl | (simp only [Bool.and_eq_true, Nat.ble_eq, Nat.blt_eq, Nat.beq_eq, true_and, and_true, Nat.le_refl, and_self]; (try omega); done) | fail) (hc : xs[i]? = some cs := by first | assumption | rfl) (hv : cs[o]? = some v := by rfl) (hw : FV v w := by first | exact FV.int | exact FV.list | exact FV.row | exact FV.bool | exact FV.agg | exact FV.nil | exact FV.ptr | exact FV.iptr | exact FV.str | exact FV.map | exact FV.tuple | exact FV.nilptr | exact FV.nilmap | exact FV.func | exact FV.nilfunc | exact FV.nrow) : Ev P E S n (.load t a) w S n := ⟨[], by
  simp only [Bool.and_eq_true, Nat.ble_eq] at hg
  cases hw
  simp only [vop, h.eq, ha, vload, hs, if_pos hg, hc, Option.bind_some, vpart, hv]
  rfl, rfl⟩
theorem ev_load_row {α : Type} {f : α → List V} {ys : List α} {y : α} {v w : V} [h : TyI P t ⟨k, 1, by', false, z⟩] (ha : aev E a = .ptr id g i o := by rfl) (hs : slk S id = some (.cells e m G L (ys.map f)) := by rfl) (hg : (Nat.ble L g && Nat.ble g G) = true := by first | rfl | (simp only [Bool.and_eq_true, Nat.ble_eq, Nat.blt_eq, Nat.beq_eq, true_and, and_true, Nat.le_refl, and_self]; (try omega); done) | fail) (hc : ys[i]? = some y := by first | assumption | rfl) (hv : (f y)[o]? = some v := by rfl) (hw : FV v w := by first | exact FV.int | exact FV.list | exact FV.row | exact FV.bool | exact FV.agg | exact FV.nil | exact FV.ptr | exact FV.iptr | exact FV.str | exact FV.map | exact FV.tuple | exact FV.nilptr | exact FV.nilmap | exact FV.func | exact FV.nilfunc | exact FV.nrow) : Ev P E S n (.load t a) w S n := ev_load_raw ha hs hg (elem_map hc) hv hw
theorem ev_load_raw_all {sz : Nat} [h : TyI P t ⟨k, sz, by', true, z⟩] (ha : aev E a = .ptr id g i 0 := by rfl) (hs : slk S id = some (.cells e m G L xs) := by rfl) (hg : (Nat.ble L g && Nat.ble g G) = true := by first | rfl | (simp only [Bool.and_eq_true, Nat.ble_eq, Nat.blt_eq, Nat.beq_eq, true_and, and_true, Nat.le_refl, and_self]; (try omega); done) | fail) (hc : xs[i]? = some cs := by first | assumption | rfl) (hl : cs.length = sz := by first | rfl | assumption | (simp; done) | fail) : Ev P E S n (.load t a) (.agg cs) S n := ⟨[], by
  simp only [Bool.and_eq_true, Nat.ble_eq] at hg
  subst hl
  simp only [vop, h.eq, ha, vload, hs, if_pos hg, hc, Option.bind_some, vpart, Nat.zero_add, Nat.le_refl, if_true, List.drop_zero, List.take_length]
  rfl, rfl⟩
theorem ev_load_row_all {α : Type} {f : α → List V} {ys : List α} {y : α} {sz : Nat} [h : TyI P t ⟨k, sz, by', true, z⟩] (ha : aev E a = .ptr id g i 0 := by rfl) (hs : slk S id = some (.cells e m G L (ys.map f)) := by rfl) (hg : (Nat.ble L g && Nat.ble g G) = true := by first | rfl | (simp only [Bool.and_eq_true, Nat.ble_eq, Nat.blt_eq, Nat.beq_eq, true_and, and_true, Nat.le_refl, and_self]; (try omega); done) | fail) (hc : ys[i]? = some y := by first | assumption | rfl) (hl : (f y).length = sz := by first | rfl | assumption | (simp; done) | fail) : Ev P E S n (.load t a) (.agg (f y)) S n := ev_load_raw_all ha hs hg (elem_map hc) hl
theorem ev_store_raw {x : Operand} {sz : Nat} {ds vs : List V} {v : V} {ag : Bool} [h : TyI P t ⟨k, sz, by', ag, z⟩] (ha : aev E a = .ptr id g i o := by rfl) (hx : FV (aev E x) v := by first | exact FV.int | exact FV.list | exact FV.row | exact FV.bool | exact FV.agg | exact FV.nil | exact FV.ptr | exact FV.iptr | exact FV.str | exact FV.map | exact FV.tuple | exact FV.nilptr | exact FV.nilmap | exact FV.func | exact FV.nilfunc | exact FV.nrow) (hs : slk S id = some (.cells e m G L xs) := by rfl) (hvs : vcells v = vs := by rfl) (hg : Nat.beq g G = true := by first | rfl | (simp only [Bool.and_eq_true, Nat.ble_eq, Nat.blt_eq, Nat.beq_eq, true_and, and_true, Nat.le_refl, and_self]; (try omega); done) | fail) (hl : (Nat.beq vs.length sz && Nat.ble (o + sz) m) = true := by rfl) (ho : vs.all V.one = true := by rfl) (hc : xs[i]? = some cs := by first | assumption | rfl) (hd : FL (splice cs o vs) ds := by first | ((repeat' (first | exact FL.nil | exact FV.int | exact FV.list | exact FV.row | exact FV.bool | exact FV.nil | exact FV.str | exact FV.ptr | exact FV.iptr | exact FV.map | exact FV.func | exact FV.nilptr | exact FV.nilmap | exact FV.nilfunc | exact FV.nrow | apply FL.cons)); done) | fail) : Ev P E S n (.store t a x) (.tuple []) ((id, some (.cells e m G G (xs.set i ds))) :: S) n := ⟨[(id, .cells e m G G (xs.set i ds))], by
  simp only [Bool.and_eq_true, Nat.ble_eq, Nat.beq_eq] at hg hl
  obtain ⟨h2, h3⟩ := hl
  have h1 := hg
  rw [← hd.eq]
  simp only [vop, h.eq, ha, vstore, hs]
  rw [show aev E x = v from hx, hvs, if_pos ⟨h1, h2, h3, ho⟩, hc]
  rfl, upd_one _ _⟩
theorem ev_store_row {α : Type} {f : α → List V} {ys : List α} {y : α} {x : Operand} {sz : Nat} {ds vs : List V} {v : V} {ag : Bool} [h : TyI P t ⟨k, sz, by', ag, z⟩] (ha : aev E a = .ptr id g i o := by rfl) (hx : FV (aev E x) v := by first | exact FV.int | exact FV.list | exact FV.row | exact FV.bool | exact FV.agg | exact FV.nil | exact FV.str) (hs : slk S id = some (.cells e m G L (ys.map f)) := by rfl) (hc : ys[i]? = some y := by assumption) (hvs : vcells v = vs := by rfl) (hg : Nat.beq g G = true := by first | rfl | (simp only [Bool.and_eq_true, Nat.ble_eq, Nat.blt_eq, Nat.beq_eq, true_and, and_true, Nat.le_refl, and_self]; (try omega); done) | fail) (hl : (Nat.beq vs.length sz && Nat.ble (o + sz) m) = true := by rfl) (ho : vs.all V.one = true := by rfl) (hd : FL (splice (f y) o vs) ds := by first | ((repeat' (first | exact FL.nil | exact FV.int | exact FV.list | exact FV.row | exact FV.bool | exact FV.nil | exact FV.str | exact FV.ptr | exact FV.iptr | exact FV.map | exact FV.func | exact FV.nilptr | exact FV.nilmap | exact FV.nilfunc | exact FV.nrow | apply FL.cons)); done) | fail) : Ev P E S n (.store t a x) (.tuple []) ((id, some (.cells e m G G ((ys.map f).set i ds))) :: S) n := ev_store_raw ha hx hs hvs hg hl ho (elem_map hc) hd
theorem ev_store_typed {α : Type} {f : α → List V} {ys : List α} {y y2 : α} {x : Operand} {sz : Nat} {ds vs : List V} {v : V} {ag : Bool} [h : TyI P t ⟨k, sz, by', ag, z⟩] (ha : aev E a = .ptr id g i o := by rfl) (hx : FV (aev E x) v := by first | exact FV.int | exact FV.list | exact FV.row | exact FV.bool | exact FV.agg | exact FV.nil | exact FV.str) (hs : slk S id = some (.cells e m G L (ys.map f)) := by rfl) (hc : ys[i]? = some y := by assumption) (hvs : vcells v = vs := by rfl) (hg : Nat.beq g G = true := by first | rfl | (simp only [Bool.and_eq_true, Nat.ble_eq, Nat.blt_eq, Nat.beq_eq, true_and, and_true, Nat.le_refl, and_self]; (try omega); done) | fail) (hl : (Nat.beq vs.length sz && Nat.ble (o + sz) m) = true := by rfl) (ho : vs.all V.one = true := by rfl) (hd : FL (splice (f y) o vs) ds := by first | ((repeat' (first | exact FL.nil | exact FV.int | exact FV.list | exact FV.row | exact FV.bool | exact FV.nil | exact FV.str | exact FV.ptr | exact FV.iptr | exact FV.map | exact FV.func | exact FV.nilptr | exact FV.nilmap | exact FV.nilfunc | exact FV.nrow | apply FL.cons)); done) | fail) (hm : MkR f ds y2 := by infer_instance) : Ev P E S n (.store t a x) (.tuple []) ((id, some (.cells e m G G ((ys.set i y2).map f))) :: S) n := by
  rw [List.map_set, ← hm.eq]
  exact ev_store_row ha hx hs hc hvs hg hl ho hd
end
section
variable {t : TypeId} {x : Operand} {sz by' : Nat} {ag : Bool} {z : Option V} {kk : TK} [h : TyI P t ⟨kk, sz, by', ag, z⟩]
include h
theorem ev_len_of {v : V} {k : Nat} (hx : aev E x = v := by rfl) (hk : vlen (slk S) kk v = some k) : Ev P E S n (.call ⟨.builtin .len, #[x], #[t]⟩) (.int .i64 (k : Int)) S n := ⟨[], by
  simp only [vop, List.map_cons, List.map_nil, vbuiltin, tk_eq (h := h), hx, hk, Option.map_some], rfl⟩
end
section
variable {t e : TypeId} {x : Operand} {sz by' : Nat} {ag : Bool} {z : Option V} [h : TyI P t ⟨.slice e, sz, by', ag, z⟩]
include h
theorem ev_len {α : Type} {f : α → List V} {xs : List α} {m : Nat} (hx : aev E x = .list m (xs.map f) := by rfl) : Ev P E S n (.call ⟨.builtin .len, #[x], #[t]⟩) (.int .i64 (xs.length : Int)) S n := ev_len_of hx (by simp [vlen])
theorem ev_len_raw {xs : List (List V)} {m : Nat} (hx : aev E x = .list m xs := by rfl) : Ev P E S n (.call ⟨.builtin .len, #[x], #[t]⟩) (.int .i64 (xs.length : Int)) S n := ev_len_of hx rfl
theorem ev_len_nil (hx : aev E x = .nil := by rfl) : Ev P E S n (.call ⟨.builtin .len, #[x], #[t]⟩) (.int .i64 0) S n := ev_len_of hx rfl
theorem ev_len_row {id g i k : Nat} (hx : aev E x = .row id g i k := by rfl) : Ev P E S n (.call ⟨.builtin .len, #[x], #[t]⟩) (.int .i64 (k : Int)) S n := ev_len_of hx rfl
end
theorem ev_len_str {t : TypeId} {x : Operand} {sz by' : Nat} {ag : Bool} {z : Option V} {s : ByteArray} [h : TyI P t ⟨.str, sz, by', ag, z⟩] (hx : aev E x = .str s := by rfl) : Ev P E S n (.call ⟨.builtin .len, #[x], #[t]⟩) (.int .i64 (s.size : Int)) S n := ev_len_of hx rfl
theorem ev_max {x y : Operand} {ts : Array TypeId} {k : IntKind} {a b : Int} (hx : aev E x = .int k a := by rfl) (hy : aev E y = .int k b := by rfl) : Ev P E S n (.call ⟨.builtin .max, #[x, y], ts⟩) (.int k (max a b)) S n := ⟨[], by
  have : (if b > a then b else a) = max a b := by split <;> omega
  simp only [vop, List.map_cons, List.map_nil, vbuiltin, hx, hy, vfold, if_true, this, Option.map_some], rfl⟩
theorem ev_min {x y : Operand} {ts : Array TypeId} {k : IntKind} {a b : Int} (hx : aev E x = .int k a := by rfl) (hy : aev E y = .int k b := by rfl) : Ev P E S n (.call ⟨.builtin .min, #[x, y], ts⟩) (.int k (min a b)) S n := ⟨[], by
  have : (if b < a then b else a) = min a b := by split <;> omega
  simp only [vop, List.map_cons, List.map_nil, vbuiltin, hx, hy, vfold, if_true, this, Option.map_some], rfl⟩
section
variable {t e : TypeId} {x lo hi : Operand} {sz by' : Nat} {ag : Bool} {z : Option V} {ei : TI} [h : TyI P t ⟨.slice e, sz, by', ag, z⟩] [h2 : TyI P e ei]
include h h2
theorem ev_slice_of {ol oh : Option Operand} {u v : V} (hx : aev E x = u := by rfl) (hv : vslice (slk S) false ei.size (ol.map (aev E)) (oh.map (aev E)) u = some v) : Ev P E S n (.slice t x ol oh none) v S n := ⟨[], by
  simp only [vop, tk_eq (h := h), h2.eq, Option.bind_some, hx, hv, Option.map_some], rfl⟩
theorem ev_from {α : Type} {f : α → List V} {xs : List α} {m : Nat} {k : IntKind} {l : Int} (hm : ei.size = m := by rfl) (hx : aev E x = .list m (xs.map f) := by rfl) (hl : aev E lo = .int k l := by rfl) (h0 : 0 ≤ l ∧ l ≤ xs.length := by omega) : Ev P E S n (.slice t x (some lo) none none) (.list m ((xs.drop l.toNat).map f)) S n := ev_slice_of hx (by
  subst hm
  simp only [Option.map_some, Option.map_none, hl, vslice, if_true, bnd, List.length_map]
  rw [if_pos ⟨h0.1, h0.2, Int.le_refl _, trivial⟩]
  congr 2
  rw [← List.map_drop, List.take_of_length_le]
  simp)
theorem ev_upto {α : Type} {f : α → List V} {xs : List α} {m : Nat} {k : IntKind} {r : Int} (hm : ei.size = m := by rfl) (hx : aev E x = .list m (xs.map f) := by rfl) (hr : aev E hi = .int k r := by rfl) (h0 : 0 ≤ r ∧ r ≤ xs.length := by omega) : Ev P E S n (.slice t x none (some hi) none) (.list m ((xs.take r.toNat).map f)) S n := ev_slice_of hx (by
  subst hm
  simp only [Option.map_some, Option.map_none, hr, vslice, if_true, bnd, List.length_map]
  rw [if_pos ⟨Int.le_refl _, h0.1, h0.2, trivial⟩]
  simp [List.map_take])
theorem ev_from_row {id g i kk m G L : Nat} {e' : TypeId} {xs : List (List V)} {k : IntKind} {l : Int} (hx : aev E x = .row id g i kk := by rfl) (hs : slk S id = some (.cells e' m G L xs) := by rfl) (hl : aev E lo = .int k l := by rfl) (hg : (Nat.beq m ei.size && Nat.ble L g && Nat.ble g G) = true := by first | rfl | (simp only [Bool.and_eq_true, Nat.ble_eq, Nat.blt_eq, Nat.beq_eq, true_and, and_true, Nat.le_refl, and_self]; (try omega); done) | fail) (h0 : 0 ≤ l ∧ l ≤ kk := by omega) : Ev P E S n (.slice t x (some lo) none none) (.row id g (i + l.toNat) (kk - l.toNat)) S n := ev_slice_of hx (by
  simp only [Bool.and_eq_true, Nat.ble_eq, Nat.beq_eq] at hg
  have hk : okw (slk S) ei.size (.row id g i kk) = true := by simp [okw, hs, hg.1.1, hg.1.2, hg.2]
  simp only [Option.map_some, Option.map_none, hl, vslice, if_true, bnd]
  rw [if_pos ⟨h0.1, h0.2, Int.le_refl _, hk⟩]
  rfl)
theorem ev_upto_row {id g i kk m G L : Nat} {e' : TypeId} {xs : List (List V)} {k : IntKind} {r : Int} (hx : aev E x = .row id g i kk := by rfl) (hs : slk S id = some (.cells e' m G L xs) := by rfl) (hr : aev E hi = .int k r := by rfl) (hg : (Nat.beq m ei.size && Nat.ble L g && Nat.ble g G) = true := by first | rfl | (simp only [Bool.and_eq_true, Nat.ble_eq, Nat.blt_eq, Nat.beq_eq, true_and, and_true, Nat.le_refl, and_self]; (try omega); done) | fail) (h0 : 0 ≤ r ∧ r ≤ kk := by omega) : Ev P E S n (.slice t x none (some hi) none) (.row id g i r.toNat) S n := ev_slice_of hx (by
  simp only [Bool.and_eq_true, Nat.ble_eq, Nat.beq_eq] at hg
  have hk : okw (slk S) ei.size (.row id g i kk) = true := by simp [okw, hs, hg.1.1, hg.1.2, hg.2]
  simp only [Option.map_some, Option.map_none, hr, vslice, if_true, bnd]
  rw [if_pos ⟨Int.le_refl _, h0.1, h0.2, hk⟩]
  simp)
end
section
variable {t e : TypeId} {sz by' : Nat} {ag : Bool} {z : Option V} {ei : TI} [h : TyI P t ⟨.slice e, sz, by', ag, z⟩]
include h
theorem ev_make {l c : Operand} {k k' : IntKind} {j q : Int} {ek : TK} {m eb : Nat} {ea : Bool} {ze : V} {cs : List V} [h2 : TyI P e ⟨ek, m, eb, ea, some ze⟩] (hl : aev E l = .int k j := by rfl) (hc : aev E c = .int k' q := by rfl) (h0 : 0 ≤ j ∧ j ≤ q ∧ (eb : Int) * q ≤ 140737488355328 := by omega) (hz : vcells ze = cs := by rfl) (hg : (Nat.blt 0 eb && Nat.blt 0 m && Nat.beq cs.length m && cs.all V.one) = true := by rfl) : Ev P E S n (.makeSlice t l c) (.row n 0 0 j.toNat) ((n, some (.cells e m 0 0 (List.replicate j.toNat cs))) :: S) (n + 1) := ⟨[(n, .cells e m 0 0 (List.replicate j.toNat cs))], by
  simp only [Bool.and_eq_true, Nat.blt_eq, Nat.beq_eq] at hg
  simp only [vop, hl, hc, vmake, tk_eq (h := h), h2.eq, hz]
  rw [if_pos ⟨h0.1, h0.2.1, by unfold room; exact h0.2.2, hg.1.1.1, hg.1.1.2, hg.1.2, hg.2⟩], upd_one _ _⟩
theorem ev_lit1 {x : Operand} {v : V} {cs : List V} {ek : TK} {m eb : Nat} {ea : Bool} {ze : V} [h2 : TyI P e ⟨ek, m, eb, ea, some ze⟩] (hx : FV (aev E x) v := by first | exact FV.int | exact FV.list | exact FV.row | exact FV.bool | exact FV.agg | exact FV.nil | exact FV.ptr | exact FV.iptr | exact FV.str | exact FV.map | exact FV.tuple | exact FV.nilptr | exact FV.nilmap | exact FV.func | exact FV.nilfunc | exact FV.nrow) (hv : vcells v = cs := by rfl) (hz : (vcells ze).length = m := by first | rfl | assumption | (simp; done) | fail) (hg : (Nat.blt 0 m && Nat.beq cs.length m && cs.all V.one && (vcells ze).all V.one && Nat.ble m 16777216) = true := by first | rfl | (simp only [Bool.and_eq_true, Nat.ble_eq, Nat.blt_eq, Nat.beq_eq, true_and, and_true, Nat.le_refl, and_self]; (try omega); done) | fail) : Ev P E S n (.buildSlice t 1 #[(0, x)]) (.row n 0 0 1) ((n, some (.cells e m 0 0 [cs])) :: S) (n + 1) := ⟨[(n, .cells e m 0 0 [cs])], by
  simp only [Bool.and_eq_true, Nat.blt_eq, Nat.beq_eq, Nat.ble_eq] at hg
  obtain ⟨⟨⟨⟨g1, g2⟩, g3⟩, g4⟩, g5⟩ := hg
  have hsp : splice (vcells ze) 0 cs = cs := by
    unfold splice
    simp [hz, g2]
  simp only [vop, tk_eq (h := h), h2.eq]
  rw [if_pos ⟨g1, hz, g4, by omega⟩]
  simp only [List.replicate, List.flatten_cons, List.flatten_nil, List.append_nil, List.map_cons, List.map_nil, vfill, Nat.zero_mul, Nat.zero_add]
  rw [show aev E x = v from hx, hv, if_pos ⟨g2, by omega, g3⟩, hsp]
  simp only [Option.map_some, chunk, List.take_of_length_le (Nat.le_of_eq g2)], upd_one _ _⟩
end
inductive FLL : List (List V) → List (List V) → Prop where
  | nil : FLL [] []
  | cons {a a' l l'} (h : FL a a') (hl : FLL l l') : FLL (a :: l) (a' :: l')
theorem FLL.eq {l l' : List (List V)} (h : FLL l l') : l = l' := by induction h with | nil => rfl | cons h _ ih => rw [h.eq, ih]
theorem ev_lit {t e : TypeId} {sz by' len : Nat} {ag : Bool} {z : Option V} [h : TyI P t ⟨.slice e, sz, by', ag, z⟩] {ps : Array (Nat × Operand)} {ek : TK} {m eb : Nat} {ea : Bool} {ze : V} [h2 : TyI P e ⟨ek, m, eb, ea, some ze⟩] {cs : List V} {xs : List (List V)} (hz : (Nat.blt 0 m && Nat.beq (vcells ze).length m && (vcells ze).all V.one && Nat.ble (len * m) 16777216) = true := by first | rfl | (simp only [Bool.and_eq_true, Nat.ble_eq, Nat.blt_eq, Nat.beq_eq, true_and, and_true, Nat.le_refl, and_self]; (try omega); done) | fail) (hf : vfill (fun k => some (k * m, m)) (List.replicate len (vcells ze)).flatten (ps.toList.map fun p => (p.1, aev E p.2)) = some cs := by rfl) (hd : FLL (chunk len m cs) xs := by first | ((repeat' (first | exact FLL.nil | apply FLL.cons | exact FL.nil | exact FV.int | exact FV.list | exact FV.row | exact FV.bool | exact FV.nil | exact FV.str | exact FV.ptr | exact FV.iptr | exact FV.map | exact FV.func | exact FV.nilptr | exact FV.nilmap | exact FV.nilfunc | exact FV.nrow | apply FL.cons)); done) | fail) : Ev P E S n (.buildSlice t len ps) (.row n 0 0 len) ((n, some (.cells e m 0 0 xs)) :: S) (n + 1) := ⟨[(n, .cells e m 0 0 xs)], by
  simp only [Bool.and_eq_true, Nat.blt_eq, Nat.beq_eq, Nat.ble_eq] at hz
  rw [← hd.eq]
  simp only [vop, tk_eq (h := h), h2.eq]
  rw [if_pos ⟨hz.1.1.1, hz.1.1.2, hz.1.2, hz.2⟩]
  simp only [hf, Option.map_some], upd_one _ _⟩
class VPl (P : Program) (fs : List (Nat × TypeId)) (pl : outParam (List (Nat × Nat))) : Prop where
  eq : vplaces P fs = some pl
instance : VPl P [] [] := ⟨rfl⟩
instance {o : Nat} {t : TypeId} {r : List (Nat × TypeId)} {k : TK} {sz by' : Nat} {ag : Bool} {z : Option V} {pl : List (Nat × Nat)} [h : TyI P t ⟨k, sz, by', ag, z⟩] [h2 : VPl P r pl] : VPl P ((o, t) :: r) ((o, sz) :: pl) := ⟨by simp only [vplaces, h.eq, h2.eq]⟩
theorem ev_build {t : TypeId} {fs : List (Nat × TypeId)} {sz by' : Nat} {ag : Bool} {zs cs ds : List V} {pl : List (Nat × Nat)} {ps : Array (Nat × Operand)} [h : TyI P t ⟨.struct fs, sz, by', ag, some (.agg zs)⟩] [h2 : VPl P fs pl] (hz : zs.all V.one = true := by rfl) (hf : vfill (fun k => pl[k]?) zs (ps.toList.map fun p => (p.1, aev E p.2)) = some cs := by rfl) (hd : FL cs ds := by first | ((repeat' (first | exact FL.nil | exact FV.int | exact FV.list | exact FV.row | exact FV.bool | exact FV.nil | exact FV.str | exact FV.ptr | exact FV.iptr | exact FV.map | exact FV.func | exact FV.nilptr | exact FV.nilmap | exact FV.nilfunc | exact FV.nrow | apply FL.cons)); done) | fail) : Ev P E S n (.build t ps) (.agg ds) S n := ⟨[], by
  simp only [vop, h.eq]
  rw [if_pos (by simpa [vcells] using hz)]
  simp only [h2.eq, Option.bind_some, vcells, hf, Option.map_some, hd.eq], rfl⟩
section
variable {t e u : TypeId} {s x : Operand} {sz by' : Nat} {ag : Bool} {z : Option V} {ek : TK} {m eb : Nat} {ea : Bool} {ze : V} {ui : TI} [h : TyI P t ⟨.slice e, sz, by', ag, z⟩] [h2 : TyI P e ⟨ek, m, eb, ea, some ze⟩] [h3 : TyI P u ui]
include h h2 h3
theorem ev_app_of {a b v : V} {ys : List (List V)} {us : List (Nat × Blk)} {n' : Nat} (hs : aev E s = a := by rfl) (hx : aev E x = b := by rfl) (hu : (apk ui.k && Nat.blt 0 m && Nat.blt 0 eb && Nat.beq (vcells ze).length m) = true := by rfl) (hw : okw (slk S) m b = true) (hy : vseq (slk S) b = some ys := by rfl) (ha : vappend (slk S) n e m eb ys a = some (v, us, n')) {S' : ASt} (hS : upd (slk S) us = slk S') : Ev P E S n (.call ⟨.builtin .append, #[s, x], #[t, u]⟩) v S' n' := ⟨us, by
  simp only [Bool.and_eq_true, Nat.blt_eq, Nat.beq_eq] at hu
  simp only [vop, List.map_cons, List.map_nil, vbuiltin, h.eq, h2.eq, tk_eq (h := h3), hs, hx]
  rw [if_pos ⟨hu.1.1.1, hu.1.1.2, hu.1.2, by unfold zlen; exact hu.2, hw⟩]
  simp only [hy, Option.bind_some, ha], hS⟩
theorem ev_app_nil1 {id2 : Nat} {e2 : TypeId} {cs : List V} (hs : aev E s = .nil := by rfl) (hx : aev E x = .row id2 0 0 1 := by rfl) (hb : slk S id2 = some (.cells e2 m 0 0 [cs]) := by rfl) (hu : (apk ui.k && Nat.blt 0 m && Nat.blt 0 eb && Nat.beq (vcells ze).length m && Nat.ble (1 * eb) 140737488355328) = true := by rfl) : Ev P E S n (.call ⟨.builtin .append, #[s, x], #[t, u]⟩) (.row n 0 0 1) ((n, some (.cells e m 0 0 [cs])) :: S) (n + 1) := by
  rw [Bool.and_eq_true] at hu
  refine ev_app_of hs hx hu.1 (by simp [okw, hb]) (ys := [cs]) (by simp [vseq, hb]) (us := [(n, .cells e m 0 0 [cs])]) ?_ (upd_one _ _)
  have := hu.2
  simp only [Nat.ble_eq] at this
  simp only [vappend, List.length_singleton]
  rw [if_neg (by omega), if_pos (by unfold room; exact this)]
theorem ev_app_row1 {id g k L id2 : Nat} {e2 : TypeId} {cs : List V} {xs : List (List V)} (hs : aev E s = .row id g 0 k := by rfl) (hx : aev E x = .row id2 0 0 1 := by rfl) (hb : slk S id2 = some (.cells e2 m 0 0 [cs]) := by rfl) (hc : slk S id = some (.cells e m g L xs) := by rfl) (hk : xs.length = k := by first | rfl | assumption | (simp; done) | fail) (hu : (apk ui.k && Nat.blt 0 m && Nat.blt 0 eb && Nat.beq (vcells ze).length m) = true := by rfl) (hr : (k + 1) * eb ≤ 140737488355328 := by omega) : Ev P E S n (.call ⟨.builtin .append, #[s, x], #[t, u]⟩) (.row id (g + 1) 0 (k + 1)) ((id, some (.cells e m (g + 1) L (xs ++ [cs]))) :: S) n := by
  subst hk
  refine ev_app_of hs hx hu (by simp [okw, hb]) (ys := [cs]) (by simp [vseq, hb]) (us := [(id, .cells e m (g + 1) L (xs ++ [cs]))]) ?_ (upd_one _ _)
  simp only [vappend, hc, List.length_singleton]
  rw [if_pos (by unfold room; simp; exact hr), if_neg (by omega), if_pos trivial, List.take_length]
theorem ev_app_row1m {α : Type} {f : α → List V} {id g k L id2 : Nat} {e2 : TypeId} {cs : List V} {xs : List α} (hs : aev E s = .row id g 0 k := by rfl) (hx : aev E x = .row id2 0 0 1 := by rfl) (hb : slk S id2 = some (.cells e2 m 0 0 [cs]) := by rfl) (hc : slk S id = some (.cells e m g L (xs.map f)) := by rfl) (hk : xs.length = k := by first | rfl | assumption | (simp; done) | fail) (hu : (apk ui.k && Nat.blt 0 m && Nat.blt 0 eb && Nat.beq (vcells ze).length m) = true := by rfl) (hr : (k + 1) * eb ≤ 140737488355328 := by omega) : Ev P E S n (.call ⟨.builtin .append, #[s, x], #[t, u]⟩) (.row id (g + 1) 0 (k + 1)) ((id, some (.cells e m (g + 1) L (xs.map f ++ [cs]))) :: S) n := ev_app_row1 hs hx hb hc (by simpa using hk) hu hr
theorem ev_app_in1 {α : Type} {f : α → List V} {id g k L id2 : Nat} {e2 : TypeId} {cs : List V} {xs : List α} (hs : aev E s = .row id g 0 k := by rfl) (hx : aev E x = .row id2 0 0 1 := by rfl) (hb : slk S id2 = some (.cells e2 m 0 0 [cs]) := by rfl) (hc : slk S id = some (.cells e m g L (xs.map f)) := by rfl) (hk : k < xs.length := by omega) (hu : (apk ui.k && Nat.blt 0 m && Nat.blt 0 eb && Nat.beq (vcells ze).length m) = true := by rfl) (hr : (k + 1) * eb ≤ 140737488355328 := by omega) : Ev P E S n (.call ⟨.builtin .append, #[s, x], #[t, u]⟩) (.row id g 0 (k + 1)) ((id, some (.cells e m g g ((xs.take k).map f ++ (cs :: (xs.drop (k + 1)).map f)))) :: S) n := by
  refine ev_app_of hs hx hu (by simp [okw, hb]) (ys := [cs]) (by simp [vseq, hb]) (us := [(id, .cells e m g g ((xs.take k).map f ++ (cs :: (xs.drop (k + 1)).map f)))]) ?_ (upd_one _ _)
  simp only [vappend, hc, List.length_singleton, List.length_map]
  rw [if_pos (by unfold room; simp; exact ⟨by omega, hr⟩), if_pos (by omega), List.map_take, List.map_drop]
  rfl
theorem ev_app_nilL {α : Type} {f : α → List V} {ys : List α} (hs : aev E s = .nil := by rfl) (hx : aev E x = .list m (ys.map f) := by rfl) (hu : (apk ui.k && Nat.blt 0 m && Nat.blt 0 eb && Nat.beq (vcells ze).length m) = true := by rfl) (h0 : ys ≠ []) (hr : ys.length * eb ≤ 140737488355328 := by omega) : Ev P E S n (.call ⟨.builtin .append, #[s, x], #[t, u]⟩) (.row n 0 0 ys.length) ((n, some (.cells e m 0 0 (ys.map f))) :: S) (n + 1) := by
  refine ev_app_of hs hx hu (by simp [okw]) (ys := ys.map f) (by simp [vseq]) (us := [(n, .cells e m 0 0 (ys.map f))]) ?_ (upd_one _ _)
  simp only [vappend, List.length_map]
  rw [if_neg (by simpa using h0), if_pos (by unfold room; exact hr)]
theorem ev_app_nil0 {α : Type} {f : α → List V} {ys : List α} (hs : aev E s = .nil := by rfl) (hx : aev E x = .list m (ys.map f) := by rfl) (hu : (apk ui.k && Nat.blt 0 m && Nat.blt 0 eb && Nat.beq (vcells ze).length m) = true := by rfl) (h0 : ys = []) : Ev P E S n (.call ⟨.builtin .append, #[s, x], #[t, u]⟩) .nil S n := by
  subst h0
  refine ev_app_of hs hx hu (by simp [okw]) (ys := []) (by simp [vseq]) (us := []) ?_ rfl
  simp only [vappend, List.length_nil, if_true]
theorem ev_app_rowL {α : Type} {f : α → List V} {ys : List α} {id g k L : Nat} {xs : List (List V)} (hs : aev E s = .row id g 0 k := by rfl) (hx : aev E x = .list m (ys.map f) := by rfl) (hc : slk S id = some (.cells e m g L xs) := by rfl) (hk : xs.length = k := by first | rfl | assumption | (simp; done) | fail) (hu : (apk ui.k && Nat.blt 0 m && Nat.blt 0 eb && Nat.beq (vcells ze).length m) = true := by rfl) (hr : (k + ys.length) * eb ≤ 140737488355328 := by omega) : Ev P E S n (.call ⟨.builtin .append, #[s, x], #[t, u]⟩) (.row id (g + 1) 0 (k + ys.length)) ((id, some (.cells e m (g + 1) L (xs ++ ys.map f))) :: S) n := by
  subst hk
  refine ev_app_of hs hx hu (by simp [okw]) (ys := ys.map f) (by simp [vseq]) (us := [(id, .cells e m (g + 1) L (xs ++ ys.map f))]) ?_ (upd_one _ _)
  simp only [vappend, hc, List.length_map]
  rw [if_pos (by unfold room; simp; exact hr), if_neg (by omega), if_pos trivial, List.take_length]
theorem ev_app_rowLm {α : Type} {f : α → List V} {ys xs : List α} {id g k L : Nat} (hs : aev E s = .row id g 0 k := by rfl) (hx : aev E x = .list m (ys.map f) := by rfl) (hc : slk S id = some (.cells e m g L (xs.map f)) := by rfl) (hk : xs.length = k := by first | rfl | assumption | (simp; done) | fail) (hu : (apk ui.k && Nat.blt 0 m && Nat.blt 0 eb && Nat.beq (vcells ze).length m) = true := by rfl) (hr : (k + ys.length) * eb ≤ 140737488355328 := by omega) : Ev P E S n (.call ⟨.builtin .append, #[s, x], #[t, u]⟩) (.row id (g + 1) 0 (k + ys.length)) ((id, some (.cells e m (g + 1) L ((xs ++ ys).map f))) :: S) n := by
  rw [List.map_append]
  exact ev_app_rowL hs hx hc (by simpa using hk) hu hr
end
theorem fdiv_pow (a : Int) (n : Nat) : a.fdiv (2 ^ n) = a / 2 ^ n := Int.fdiv_eq_ediv_of_nonneg a (Int.le_of_lt (Int.pow_pos (by decide)))
theorem ev_shr {t ty : TypeId} {x y : Operand} {k' : IntKind} {a b : Int} (hx : aev E x = .int .i64 a := by rfl) (hy : aev E y = .int k' b := by rfl) (h : 0 ≤ b ∧ b ≤ 63 := by omega) : Ev P E S n (.binOp .shr t x y ty) (.int .i64 (a / 2 ^ b.toNat)) S n :=
  ev_shift (.inr rfl) hx hy (by
    simp only [vint]
    rw [if_neg (by omega), Nat.min_eq_left (by show b.toNat ≤ 64; omega), fdiv_pow])
theorem ev_shl {t ty : TypeId} {x y : Operand} {k' : IntKind} {a b : Int} (hx : aev E x = .int .i64 a := by rfl) (hy : aev E y = .int k' b := by rfl) (h : 0 ≤ b ∧ b ≤ 63 := by omega) : Ev P E S n (.binOp .shl t x y ty) (.int .i64 (IntKind.i64.wrap (a * 2 ^ b.toNat))) S n :=
  ev_shift (.inl rfl) hx hy (by
    simp only [vint]
    rw [if_neg (by omega), Nat.min_eq_left (by show b.toNat ≤ 64; omega)])
theorem toNat_ofInt {a : Int} (h : 0 ≤ a ∧ a ≤ 9223372036854775807) : (BitVec.ofInt 64 a).toNat = a.toNat := by
  rw [BitVec.toNat_ofInt, Int.emod_eq_of_lt h.1 (by omega)]
theorem and_mask {a : Int} {n : Nat} (h : 0 ≤ a ∧ a ≤ 9223372036854775807) (hn : n ≤ 62) : bitsOp .and .i64 a (2 ^ n - 1) = a % 2 ^ n := by
  have hp : (2 : Int) ^ n ≤ 2 ^ 62 := by
    have := Nat.pow_le_pow_right (show 0 < 2 by decide) hn
    exact_mod_cast this
  have hp0 : (0 : Int) < 2 ^ n := Int.pow_pos (by decide)
  have e62 : (2 : Int) ^ 62 = 4611686018427387904 := by decide
  have hm : ((2 : Int) ^ n - 1).toNat = 2 ^ n - 1 := by
    have : ((2 : Int) ^ n) = ((2 ^ n : Nat) : Int) := by push_cast; rfl
    rw [this]; omega
  show IntKind.i64.wrap (((BitVec.ofInt 64 a &&& BitVec.ofInt 64 (2 ^ n - 1)).toNat : Nat) : Int) = a % 2 ^ n
  rw [BitVec.toNat_and, toNat_ofInt h, toNat_ofInt ⟨by omega, by omega⟩, hm, Nat.and_two_pow_sub_one_eq_mod]
  have e : ((a.toNat % 2 ^ n : Nat) : Int) = a % 2 ^ n := by
    rw [Int.natCast_emod]
    push_cast
    rw [Int.toNat_of_nonneg h.1]
  rw [e]
  have h1 := Int.emod_nonneg a (Int.ne_of_gt hp0)
  have h2 := Int.emod_lt_of_pos a hp0
  exact wrap_in (by omega) (by omega)
end
end Go.Vm
