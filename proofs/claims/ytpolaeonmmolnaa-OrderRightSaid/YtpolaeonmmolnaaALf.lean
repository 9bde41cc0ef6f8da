/- Data with a kind: how it is written as data; small rows; what operations come to. -/
import Derived.Test.YtpolaeonmmolnaaALe
namespace Go.AI
set_option linter.unusedVariables false
set_option linter.unusedSimpArgs false

def e_i64 (x : Int) : List DV := [.int .i64 x]
def e_i32 (x : Int) : List DV := [.int .i32 x]
def e_u8 (x : Int) : List DV := [.int .u8 x]
def e_u16 (x : Int) : List DV := [.int .u16 x]
def e_u32 (x : Int) : List DV := [.int .u32 x]
def e_u64 (x : Int) : List DV := [.int .u64 x]
def e_bool (x : Bool) : List DV := [.bool x]
def e_str (x : ByteArray) : List DV := [.str x]
def e_sl {α : Type} (s : Nat) (e : α → List DV) (x : List α) : List DV := [.sl s (x.map e)]
theorem e_i64_inj {x y : Int} (h : e_i64 x = e_i64 y) : x = y := by simpa [e_i64] using h
theorem e_i32_inj {x y : Int} (h : e_i32 x = e_i32 y) : x = y := by simpa [e_i32] using h
theorem e_u8_inj {x y : Int} (h : e_u8 x = e_u8 y) : x = y := by simpa [e_u8] using h
theorem e_u16_inj {x y : Int} (h : e_u16 x = e_u16 y) : x = y := by simpa [e_u16] using h
theorem e_u32_inj {x y : Int} (h : e_u32 x = e_u32 y) : x = y := by simpa [e_u32] using h
theorem e_u64_inj {x y : Int} (h : e_u64 x = e_u64 y) : x = y := by simpa [e_u64] using h
theorem e_bool_inj {x y : Bool} (h : e_bool x = e_bool y) : x = y := by simpa [e_bool] using h
theorem e_str_inj {x y : ByteArray} (h : e_str x = e_str y) : x = y := by simpa [e_str] using h
theorem map_inj {α : Type} {e : α → List DV} (he : ∀ {x y}, e x = e y → x = y) : ∀ {l m : List α}, l.map e = m.map e → l = m
  | [], [], _ => rfl
  | [], _ :: _, h => by simp at h
  | _ :: _, [], h => by simp at h
  | a :: l, b :: m, h => by
    simp only [List.map_cons, List.cons.injEq] at h
    rw [he h.1, map_inj he h.2]
theorem e_sl_inj {α : Type} {s : Nat} {e : α → List DV} (he : ∀ {x y}, e x = e y → x = y) {x y : List α} (h : e_sl s e x = e_sl s e y) : x = y := by
  simp only [e_sl, List.cons.injEq, DV.sl.injEq, true_and, and_true] at h
  exact map_inj he h
theorem pair_eq {α β : Type} {a a' : α} {b b' : β} (h : a = a') (h' : b = b') : (a, b) = (a', b') := by rw [h, h']

structure Arr3 (α : Type) where
  a0 : α
  a1 : α
  a2 : α
  deriving DecidableEq
structure Arr4 (α : Type) where
  a0 : α
  a1 : α
  a2 : α
  a3 : α
  deriving DecidableEq
structure Arr6 (α : Type) where
  a0 : α
  a1 : α
  a2 : α
  a3 : α
  a4 : α
  a5 : α
  deriving DecidableEq
def e_arr3 {α : Type} (e : α → List DV) (x : Arr3 α) : List DV := e x.a0 ++ e x.a1 ++ e x.a2
def e_arr4 {α : Type} (e : α → List DV) (x : Arr4 α) : List DV := e x.a0 ++ e x.a1 ++ e x.a2 ++ e x.a3
def e_arr6 {α : Type} (e : α → List DV) (x : Arr6 α) : List DV := e x.a0 ++ e x.a1 ++ e x.a2 ++ e x.a3 ++ e x.a4 ++ e x.a5
theorem arr3_i64_inj {x y : Arr3 Int} (h : e_arr3 e_i64 x = e_arr3 e_i64 y) : x = y := by cases x; cases y; simp [e_arr3, e_i64] at h; simp [h]
theorem arr4_u8_inj {x y : Arr4 Int} (h : e_arr4 e_u8 x = e_arr4 e_u8 y) : x = y := by cases x; cases y; simp [e_arr4, e_u8] at h; simp [h]
theorem arr6_i64_inj {x y : Arr6 Int} (h : e_arr6 e_i64 x = e_arr6 e_i64 y) : x = y := by cases x; cases y; simp [e_arr6, e_i64] at h; simp [h]

section
variable {C : FuncId → Con} {ρ : Opd → AV} {ρp : Bool → Opd → AV} {id : Id} {H : Hp} {x y i : Opd}

theorem E_bin {op : BinOp} {a b c : DV} (hx : ρ x = .val a) (hy : ρ y = .val b) (h : binD op a b = some c) : semE C H ρ ρp [] id (.p (.bin op x y)) = some (.val c, H) := E_p (by simp only [semP, hx, hy, h, Option.map_some])
theorem bin_quo {k : IntKind} {a b : Int} (h : ¬ b = 0) : binD .quo (.int k a) (.int k b) = some (.int k (k.wrap (a.tdiv b))) := by simp [binD, h]
theorem bin_rem {k : IntKind} {a b : Int} (h : ¬ b = 0) : binD .rem (.int k a) (.int k b) = some (.int k (a.tmod b)) := by simp [binD, h]
theorem bin_shl {k k' : IntKind} {a b : Int} (h : 0 ≤ b) : binD .shl (.int k a) (.int k' b) = some (.int k (k.wrap (a * 2 ^ (min b.toNat k.bits)))) := by simp [binD, h]
theorem bin_shr {k k' : IntKind} {a b : Int} (h : 0 ≤ b) : binD .shr (.int k a) (.int k' b) = some (.int k (a.fdiv (2 ^ (min b.toNat k.bits)))) := by simp [binD, h]
theorem E_idxAi {n v : Int} {k : IntKind} {len : Nat} {xs : List Int} (hx : ρ x = .val (.agg (xs.map (.int k)))) (hi : (ρ i).num = some n) (hl : xs.length = len) (hd : getO xs n = some v) :
    semE C H ρ ρp [] id (.p (.idxA len 1 false x i)) = some (.val (.int k v), H) := by
  refine E_idxA (ds := xs.map (.int k)) hx hi (by simpa using hl) ?_
  unfold getO at hd ⊢
  split at hd
  · rename_i h0
    rw [if_pos h0, List.getElem?_map, hd]
    rfl
  · cases hd
end
end Go.AI
