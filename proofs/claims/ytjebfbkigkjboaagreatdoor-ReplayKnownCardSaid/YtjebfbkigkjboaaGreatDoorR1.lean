/- Words on memory that this claim's walks share: rows of cells that are read, blocks that are known whole. Nothing of the program is named. -/
import Derived.WalkKit
import Derived.KernelRfl
import Derived.Lib.Hide
import Derived.Deep.AppendLies
import Derived.Maps.AppendAt
import Derived.Deep.Draws
import Derived.Lib.AppendStr
import Derived.BigQuiet
import Derived.Deep.QuietTactic
import Derived.Laws.CopyOwn
import Derived.Laws.MakeOwn
import Derived.Laws.OwnMore
import Derived.Laws.StructEq
import Derived.ChangeArms
import Derived.DataElems
import Derived.Laws.BytesArg
import Derived.Lib.ConvBytes
namespace Go.Proofs.YtjebfbkigkjboaaGreatDoor.Kit
open Go.RowKit

/-! ### addresses -/
theorem add_block (a : Addr) (n : Nat) : (a.add n).block = a.block := by unfold Addr.add; split <;> rfl
theorem add_add (a : Addr) (i j : Nat) : (a.add i).add j = a.add (i + j) := by
  unfold Addr.add
  by_cases hi : i = 0 <;> by_cases hj : j = 0 <;> simp [hi, hj, Nat.add_assoc]
theorem add_zero' (a : Addr) : a.add 0 = a := by unfold Addr.add; simp

/-! ### the cells xs can be read from the address A on; all below block B -/
def Rd (w : World) (B : Nat) (A : Option Addr) (xs : List Value) : Prop :=
  xs ≠ [] → ∃ ad, A = some ad ∧ ad.block < B ∧ ∀ j u, xs[j]? = some u → w.cell? (ad.add j) = some u

section
variable {w w' : World} {B B' : Nat} {A : Option Addr} {xs : List Value}
theorem Rd.nil : Rd w B A [] := fun h => absurd rfl h
theorem Rd.at_ (h : Rd w B A xs) {k : Nat} (hk : k < xs.length) : ∃ ad, A = some ad ∧ ad.block < B ∧ w.cell? (ad.add k) = some xs[k] := by
  obtain ⟨ad, e, hb, hc⟩ := h (by intro e; subst e; simp at hk)
  exact ⟨ad, e, hb, hc k _ (List.getElem?_eq_getElem hk)⟩
theorem Rd.keep (h : Rd w B A xs) (hk : ∀ p : Addr, p.block < B → w'.cell? p = w.cell? p) : Rd w' B A xs := fun hn => by
  obtain ⟨ad, e, hb, hc⟩ := h hn
  exact ⟨ad, e, hb, fun j u hu => (hk _ (by rw [add_block]; exact hb)).trans (hc j u hu)⟩
theorem Rd.more (h : Rd w B A xs) (hB : B ≤ B') : Rd w B' A xs := fun hn => by
  obtain ⟨ad, e, hb, hc⟩ := h hn
  exact ⟨ad, e, by omega, hc⟩
theorem Rd.below (h : Rd w B A xs) (hb : Below B w w') : Rd w' B A xs := h.keep fun _ hp => hb.cell hp
theorem Rd.drewN (h : Rd w B A xs) (k : Nat) : Rd (w.drewN k) B A xs := h
theorem Rd.alloc (h : Rd w B A xs) (hB : B ≤ w.heap.size) (o : Obj) : Rd (w.alloc o) B A xs := h.keep fun p hp => World.cell?_alloc_lt w o p (by omega)
end

/-! ### a slice value that reads as the cells xs, size cells an element -/
structure Sl (w : World) (B size : Nat) (v : Value) (n : Nat) (xs : List Value) : Prop where
  mk :: (out : ∃ A c, v = .slice A n c ∧ n ≤ c ∧ c ≤ maxLen ∧ xs.length = n * size ∧ Rd w B A xs)

/-- a world that has only new blocks more: Below its own size. -/
abbrev Ext (w w' : World) : Prop := Below w.heap.size w w'
theorem Ext.drewN (w : World) (n : Nat) : Ext w (w.drewN n) := ⟨rfl, rfl, rfl, Nat.le_refl _, fun _ _ => rfl⟩

end Go.Proofs.YtjebfbkigkjboaaGreatDoor.Kit

/- A small calculus over the model: slices that are only read are told by their contents, what a call makes for itself by number; each word here is plain Lean, and nothing of the program is named. -/
namespace Go.Proofs.YtjebfbkigkjboaaGreatDoor.Sy
open Go.RowKit Kit

/-- kinds of data -/
inductive Ty where
  | int (k : IntKind)
  | bool
  | str
  | sl (t : Ty)
  | pair (a b : Ty)
  deriving DecidableEq
/-- the data of a kind -/
@[reducible] def Ty.El : Ty → Type
  | .int _ => Int
  | .bool => Bool
  | .str => ByteArray
  | .sl t => List t.El
  | .pair a b => a.El × b.El
def Ty.dflt : (t : Ty) → t.El
  | .int _ => (0 : Int)
  | .bool => false
  | .str => ByteArray.empty
  | .sl _ => []
  | .pair a b => (a.dflt, b.dflt)
instance (t : Ty) : Inhabited t.El := ⟨t.dflt⟩
def Ty.sz : Ty → Nat
  | .pair a b => a.sz + b.sz
  | _ => 1
/-- data that is only read, one cell of it: a number, a truth value, a text; a slice, by its elements -/
inductive D where
  | v (x : Value)
  | sl (t : Ty) (l : List t.El)
instance : Inhabited D := ⟨.v (.bool false)⟩
/-- the cells of a datum -/
def split : (t : Ty) → t.El → List D
  | .int k, n => [.v (.int k n)]
  | .bool, b => [.v (.bool b)]
  | .str, s => [.v (.string s)]
  | .sl t, l => [.sl t l]
  | .pair a b, x => split a x.1 ++ split b x.2
theorem split_len : ∀ (t : Ty) (x : t.El), (split t x).length = t.sz
  | .int _, _ => rfl
  | .bool, _ => rfl
  | .str, _ => rfl
  | .sl _, _ => rfl
  | .pair a b, x => by simp [split, Ty.sz, split_len a, split_len b]
theorem Ty.sz_pos : ∀ t : Ty, 0 < t.sz
  | .int _ | .bool | .str | .sl _ => Nat.one_pos
  | .pair a b => by have := a.sz_pos; simp [Ty.sz]; omega
def rows (t : Ty) (l : List t.El) : List (List D) := l.map (split t)
theorem rows_len (t : Ty) (l : List t.El) : (rows t l).length = l.length := List.length_map ..
theorem rows_append (t : Ty) (l m : List t.El) : rows t (l ++ m) = rows t l ++ rows t m := List.map_append ..
theorem rows_take (t : Ty) (l : List t.El) (k : Nat) : rows t (l.take k) = (rows t l).take k := List.map_take ..
theorem rows_drop (t : Ty) (l : List t.El) (k : Nat) : rows t (l.drop k) = (rows t l).drop k := List.map_drop ..
theorem rows_nil (t : Ty) : rows t [] = [] := rfl
theorem rows_ne (t : Ty) {l : List t.El} : rows t l ≠ [] ↔ l ≠ [] := by cases l <;> simp [rows]
theorem rows_at (t : Ty) {l : List t.El} {k : Nat} (h : k < l.length) : (rows t l)[k]? = some (split t (l.getD k t.dflt)) := by
  simp [rows, List.getElem?_map, List.getD, List.getElem?_eq_getElem h]

def scalar : Value → Bool
  | .bool _ | .int .. | .string _ => true
  | _ => false

/-- blocks that nobody writes any more -/
abbrev Snap := Nat → Option Obj
def Snap.cell (M : Snap) (a : Addr) : Option Value :=
  match M a.block with
  | some (.cells c _ _) => if a.spot.isSome then none else c[a.off]?
  | _ => none
theorem Snap.cell_world {M : Snap} {w : World} (h : ∀ b o, M b = some o → w.heap[b]? = some o) {a : Addr} {v : Value} (hc : M.cell a = some v) : w.cell? a = some v := by
  unfold Snap.cell at hc
  unfold World.cell?
  split at hc
  · rename_i c e f hm; rw [h _ _ hm]; exact hc
  · cases hc
theorem Snap.cell_mono {M M' : Snap} (h : ∀ b o, M b = some o → M' b = some o) {a : Addr} {v : Value} (hc : M.cell a = some v) : M'.cell a = some v := by
  unfold Snap.cell at hc ⊢
  split at hc
  · rename_i c e f hm; rw [h _ _ hm]; exact hc
  · cases hc

inductive DR (M : Snap) : D → Value → Prop
  | v {x : Value} (h : scalar x = true) : DR M (.v x) x
  | sl {t : Ty} {l : List t.El} {A : Option Addr} {c : Nat} (g : Nat → Nat → Value) (hc : l.length ≤ c) (hm : c ≤ maxLen)
      (hA : l ≠ [] → ∃ ad, A = some ad ∧ ∀ k j, k < l.length → j < t.sz → M.cell (ad.add (k * t.sz + j)) = some (g k j))
      (hg : ∀ (k j : Nat) (e : List D) (x : D), (rows t l)[k]? = some e → e[j]? = some x → DR M x (g k j)) : DR M (.sl t l) (.slice A l.length c)

theorem DR.mono {M M' : Snap} (h : ∀ b o, M b = some o → M' b = some o) {x : D} {v : Value} (hr : DR M x v) : DR M' x v := by
  induction hr with
  | v h => exact .v h
  | sl g hc hm hA _ ih =>
    refine .sl g hc hm (fun hn => ?_) ih
    obtain ⟨ad, e, hcell⟩ := hA hn
    exact ⟨ad, e, fun k j hk hj => Snap.cell_mono h (hcell k j hk hj)⟩
theorem DR.one {M : Snap} {x : D} {v : Value} (h : DR M x v) : v.oneCell' = true := by
  cases h with
  | v h => cases v <;> simp_all [scalar, Value.oneCell']
  | sl => rfl

/-- cells, one for one -/
inductive Cells (M : Snap) : List D → List Value → Prop
  | nil : Cells M [] []
  | cons {x u xs us} : DR M x u → Cells M xs us → Cells M (x :: xs) (u :: us)
theorem Cells.mono {M M' : Snap} (h : ∀ b o, M b = some o → M' b = some o) {l : List D} {vs : List Value} (hr : Cells M l vs) : Cells M' l vs := by
  induction hr with
  | nil => exact .nil
  | cons h1 _ ih => exact .cons (h1.mono h) ih
theorem Cells.length {M : Snap} {l : List D} {vs : List Value} (h : Cells M l vs) : vs.length = l.length := by
  induction h with
  | nil => rfl
  | cons _ _ ih => simp [ih]
theorem Cells.append {M : Snap} {l l' : List D} {vs vs' : List Value} (h : Cells M l vs) (h' : Cells M l' vs') : Cells M (l ++ l') (vs ++ vs') := by
  induction h with
  | nil => exact h'
  | cons h1 _ ih => exact .cons h1 ih
theorem Cells.at_ {M : Snap} {l : List D} {vs : List Value} (h : Cells M l vs) : ∀ {j : Nat} {x : D}, l[j]? = some x → ∃ u, vs[j]? = some u ∧ DR M x u := by
  induction h with
  | nil => intro j x hx; simp at hx
  | cons h1 _ ih =>
    intro j x hx
    cases j with
    | zero => simp at hx; subst hx; exact ⟨_, rfl, h1⟩
    | succ j => exact ih (j := j) (by simpa using hx)
theorem Cells.one {M : Snap} {l : List D} {vs : List Value} (h : Cells M l vs) : ∀ u ∈ vs, u.oneCell' = true := by
  induction h with
  | nil => simp
  | cons h1 _ ih => intro u hu
                    rcases List.mem_cons.1 hu with rfl | hu
                    · exact h1.one
                    · exact ih u hu
theorem Cells.of_at {M : Snap} : ∀ {l : List D} {vs : List Value}, vs.length = l.length → (∀ (j : Nat) (x : D) (u : Value), l[j]? = some x → vs[j]? = some u → DR M x u) → Cells M l vs
  | [], [], _, _ => .nil
  | x :: l, u :: vs, hl, h => .cons (h 0 x u rfl rfl) (Cells.of_at (by simpa using hl) fun j x u hx hu => h (j + 1) x u (by simpa using hx) (by simpa using hu))
  | [], _ :: _, hl, _ => by simp at hl
  | _ :: _, [], hl, _ => by simp at hl
theorem Cells.drop {M : Snap} {l : List D} {vs : List Value} (h : Cells M l vs) (n : Nat) : Cells M (l.drop n) (vs.drop n) := by
  induction h generalizing n with
  | nil => simp; exact .nil
  | cons h1 h2 ih => cases n with
    | zero => exact .cons h1 h2
    | succ n => simpa using ih n
theorem Cells.take {M : Snap} {l : List D} {vs : List Value} (h : Cells M l vs) (n : Nat) : Cells M (l.take n) (vs.take n) := by
  induction h generalizing n with
  | nil => simp; exact .nil
  | cons h1 h2 ih => cases n with
    | zero => exact .nil
    | succ n => simpa using Cells.cons h1 (ih n)

/-- the cells of a row, element by element -/
inductive Flat (M : Snap) (sz : Nat) : List (List D) → List Value → Prop
  | nil : Flat M sz [] []
  | cons {e vs es xs} : Cells M e vs → e.length = sz → Flat M sz es xs → Flat M sz (e :: es) (vs ++ xs)
section
variable {M M' : Snap} {sz : Nat} {es es' : List (List D)} {xs xs' : List Value}
theorem Flat.mono (h : ∀ b o, M b = some o → M' b = some o) (hr : Flat M sz es xs) : Flat M' sz es xs := by
  induction hr with
  | nil => exact .nil
  | cons h1 h2 _ ih => exact .cons (h1.mono h) h2 ih
theorem Flat.length (h : Flat M sz es xs) : xs.length = es.length * sz := by
  induction h with
  | nil => simp
  | cons h1 h2 _ ih => rw [List.length_append, h1.length, h2, ih, List.length_cons, Nat.add_mul]; omega
theorem Flat.append (h : Flat M sz es xs) (h' : Flat M sz es' xs') : Flat M sz (es ++ es') (xs ++ xs') := by
  induction h with
  | nil => exact h'
  | cons h1 h2 _ ih => rw [List.append_assoc]; exact .cons h1 h2 ih
theorem Flat.one (h : Flat M sz es xs) : ∀ u ∈ xs, u.oneCell' = true := by
  induction h with
  | nil => simp
  | cons h1 _ _ ih =>
    intro u hu
    rcases List.mem_append.1 hu with hu | hu
    · exact h1.one u hu
    · exact ih u hu
theorem Flat.sizes (h : Flat M sz es xs) : ∀ e ∈ es, e.length = sz := by
  induction h with
  | nil => simp
  | cons _ h2 _ ih =>
    intro e he
    rcases List.mem_cons.1 he with rfl | he
    · exact h2
    · exact ih e he
theorem Flat.at_ (h : Flat M sz es xs) : ∀ {k : Nat} {e : List D}, es[k]? = some e → Cells M e ((xs.drop (k * sz)).take sz) := by
  induction h with
  | nil => intro k e he; simp at he
  | @cons e0 vs es xs h1 h2 h3 ih =>
    intro k e he
    have hl : vs.length = sz := h1.length.trans h2
    cases k with
    | zero =>
      simp at he; subst he
      simp only [Nat.zero_mul, List.drop_zero]
      rw [List.take_append_of_le_length (by omega), List.take_of_length_le (by omega)]; exact h1
    | succ k =>
      have := ih (k := k) (by simpa using he)
      rw [show (k + 1) * sz = vs.length + k * sz by rw [Nat.add_mul, hl]; omega, ← List.drop_drop, List.drop_left]
      exact this
theorem Flat.cell (h : Flat M sz es xs) {k j : Nat} {e : List D} {x : D} (he : es[k]? = some e) (hx : e[j]? = some x) : ∃ u, xs[k * sz + j]? = some u ∧ DR M x u := by
  obtain ⟨u, hu, hd⟩ := (h.at_ he).at_ hx
  refine ⟨u, ?_, hd⟩
  have hj : j < sz := by
    have := h.sizes e (List.mem_of_getElem? he)
    have := (List.getElem?_eq_some_iff.1 hx).1
    omega
  rw [List.getElem?_take_of_lt hj, List.getElem?_drop] at hu
  exact hu
theorem Flat.of_dr {t : Ty} {l : List t.El} {A : Option Addr} {n c : Nat} (h : DR M (.sl t l) (.slice A n c)) :
    n = l.length ∧ n ≤ c ∧ c ≤ maxLen ∧ ∃ xs, Flat M t.sz (rows t l) xs ∧ (l ≠ [] → ∃ ad, A = some ad ∧ ∀ j u, xs[j]? = some u → M.cell (ad.add j) = some u) := by
  cases h with
  | sl g hc hm hA hg =>
    refine ⟨rfl, hc, hm, ?_⟩
    have hs : ∀ e ∈ rows t l, e.length = t.sz := fun e he => by
      obtain ⟨x, _, rfl⟩ := List.mem_map.1 he
      exact split_len t x
    have hlen := rows_len t l
    generalize hsz : t.sz = sz at *
    generalize hes : rows t l = es at *
    have hne : l ≠ [] ↔ es ≠ [] := by rw [← hes]; exact (rows_ne t).symm
    rw [hne]
    have key : ∀ (l : List (List D)) (k0 : Nat), (∀ e ∈ l, e.length = sz) → (∀ (k j : Nat) (e : List D) (x : D), l[k]? = some e → e[j]? = some x → DR M x (g (k0 + k) j)) →
        ∃ xs, Flat M sz l xs ∧ ∀ (j : Nat) (u : Value), xs[j]? = some u → u = g (k0 + j / sz) (j % sz) ∧ j / sz < l.length ∧ j % sz < sz := by
      intro l
      induction l with
      | nil => exact fun k0 _ _ => ⟨[], .nil, fun j u hu => by simp at hu⟩
      | cons e l ih =>
        intro k0 hl hd
        obtain ⟨xs, hf, hx⟩ := ih (k0 + 1) (fun e he => hl e (List.mem_cons_of_mem _ he)) (fun k j e x he hx => by
          have := hd (k + 1) j e x (by simpa using he) hx
          rwa [show k0 + (k + 1) = k0 + 1 + k by omega] at this)
        have hsz : e.length = sz := hl e (List.mem_cons_self ..)
        have hc : Cells M e ((List.range sz).map (g k0)) := Cells.of_at (by simp [hsz]) fun j x u hx hu => by
          have hj : j < sz := by have := (List.getElem?_eq_some_iff.1 hx).1; omega
          rw [List.getElem?_map, List.getElem?_range hj] at hu
          simp at hu; subst hu
          exact hd 0 j e x rfl hx
        refine ⟨_, .cons hc hsz hf, fun j u hu => ?_⟩
        by_cases hj : j < sz
        · rw [List.getElem?_append_left (by simpa using hj), List.getElem?_map, List.getElem?_range hj] at hu
          simp at hu; subst hu
          rw [Nat.div_eq_of_lt hj, Nat.mod_eq_of_lt hj]
          exact ⟨rfl, by simp, hj⟩
        · have hz : 0 < sz := by
            rcases Nat.eq_zero_or_pos sz with h0 | h0
            · subst h0
              have hx0 := hf.length
              simp at hx0; subst hx0
              simp at hu
            · exact h0
          rw [List.getElem?_append_right (by simp; omega)] at hu
          simp only [List.length_map, List.length_range] at hu
          obtain ⟨h1, h2, h3⟩ := hx _ _ hu
          have hd1 : j / sz = (j - sz) / sz + 1 := by
            rw [Nat.div_eq_sub_div hz (by omega)]
          have hm1 : j % sz = (j - sz) % sz := Nat.mod_eq_sub_mod (by omega)
          rw [hd1, hm1]
          exact ⟨by rw [h1]; congr 1; omega, by simpa using h2, h3⟩
    obtain ⟨xs, hf, hx⟩ := key es 0 hs (fun k j e x he hx => by simpa using hg k j e x he hx)
    refine ⟨xs, hf, fun hn => ?_⟩
    obtain ⟨ad, e, hcell⟩ := hA (hne.2 hn)
    refine ⟨ad, e, fun j u hu => ?_⟩
    obtain ⟨h1, h2, h3⟩ := hx j u hu
    rw [h1, Nat.zero_add, ← hcell _ _ (by omega) h3, Nat.mul_comm, Nat.div_add_mod]
theorem Flat.to_dr {t : Ty} {l : List t.El} {A : Option Addr} {c : Nat} (h : Flat M t.sz (rows t l) xs) (hc : l.length ≤ c) (hm : c ≤ maxLen) (hA : l ≠ [] → ∃ ad, A = some ad ∧ ∀ j u, xs[j]? = some u → M.cell (ad.add j) = some u) :
    DR M (.sl t l) (.slice A l.length c) := by
  refine .sl (fun k j => xs.getD (k * t.sz + j) undef) hc hm (fun hn => ?_) (fun k j e x he hx => ?_)
  · obtain ⟨ad, e, hcell⟩ := hA hn
    refine ⟨ad, e, fun k j hk hj => ?_⟩
    have hlt : k * t.sz + j < xs.length := by
      rw [h.length, rows_len]
      calc k * t.sz + j < k * t.sz + t.sz := by omega
        _ = (k + 1) * t.sz := by rw [Nat.add_mul, Nat.one_mul]
        _ ≤ l.length * t.sz := Nat.mul_le_mul_right _ hk
    rw [hcell _ _ (List.getElem?_eq_getElem hlt)]
    simp [List.getD, List.getElem?_eq_getElem hlt]
  · obtain ⟨u, hu, hd⟩ := h.cell he hx
    simp [List.getD, hu]; exact hd
theorem DR.slice {t : Ty} {l : List t.El} {v : Value} (h : DR M (.sl t l) v) : ∃ A n c, v = .slice A n c := by
  cases h; exact ⟨_, _, _, rfl⟩
theorem DR.nil (t : Ty) : DR M (.sl t []) (.slice none 0 0) := Flat.to_dr (t := t) (l := []) .nil (Nat.le_refl _) (by decide) (fun h => absurd rfl h)
end
end Go.Proofs.YtjebfbkigkjboaaGreatDoor.Sy

/- The calculus, second part: what a slot holds, what the call made for itself, and when that tells of a frame and a world. -/
namespace Go.Proofs.YtjebfbkigkjboaaGreatDoor.Sy
open Go.RowKit Kit

/-- what one cell holds -/
inductive CV where
  | any
  | und                        -- what a slot holds whose operation was passed over
  | d (x : D)
  | nil                        -- the nil slice
  | nilp                       -- the nil pointer
  | dp (cs : List D)           -- a pointer to cells that are only read: what lies from there on
  | np (i off : Nat)           -- a pointer into the call's own block i
  | row (i : Nat)              -- the call's own row i, whole
  | rp (i sz k j : Nat)        -- a pointer into the call's own row i: cell j of element k, sz cells an element
  | rv (i sz k n : Nat)        -- a part of the call's own row i: n elements from element k on
  | mp (i : Nat)               -- the call's own map i
  | nilm                       -- the nil map
  | kb (b : Bool)              -- a truth value that is known
  | cl (i : Nat)               -- a function value: the call's own i
instance : Inhabited CV := ⟨.any⟩
inductive EV where
  | c (x : CV)
  | agg (l : List CV)
inductive SV where
  | e (x : EV)
  | tup (l : List EV)
abbrev SV.any : SV := .e (.c .any)
instance : Inhabited SV := ⟨.any⟩
instance : Inhabited EV := ⟨.c .any⟩

/-- what the call made: a block known cell by cell; a row of its own that may grow -/
inductive Ob where
  | cells (T : TypeId) (cs : List CV)
  | row (t : Ty) (T : TypeId) (l : List t.El)
  | map (ka va : Bool) (kt vt : Ty) (l : List (kt.El × vt.El))
  | vec (T : TypeId) (room : Nat) (l : List CV)   -- a row of its own whose elements are cells of any kind; so many have room for certain
  | fn (f : Nat) (l : List CV)                    -- a function value, and what it has captured

def get {α : Type} (l : List (Nat × α)) (k : Nat) : Option α :=
  match l with
  | [] => none
  | (j, x) :: r => if j = k then some x else get r k
def put {α : Type} (l : List (Nat × α)) (k : Nat) (x : α) : List (Nat × α) :=
  match l with
  | [] => [(k, x)]
  | (j, y) :: r => if j = k then (k, x) :: r else if k < j then (k, x) :: (j, y) :: r else (j, y) :: put r k x
def del {α : Type} (l : List (Nat × α)) (k : Nat) : List (Nat × α) :=
  match l with
  | [] => []
  | (j, y) :: r => if j = k then del r k else (j, y) :: del r k
section
variable {α : Type}
theorem get_put (l : List (Nat × α)) (k j : Nat) (x : α) : get (put l k x) j = if k = j then some x else get l j := by
  induction l with
  | nil => simp [put, get]
  | cons p r ih =>
    obtain ⟨i, y⟩ := p
    simp only [put]
    split
    · rename_i h; subst h; simp only [get]; split <;> simp_all
    · split
      · simp only [get]
      · rename_i h _
        simp only [get, ih]
        by_cases e : i = j
        · rw [if_pos e, if_neg (by omega), if_pos e]
        · rw [if_neg e, if_neg e]
theorem get_del (l : List (Nat × α)) (k j : Nat) : get (del l k) j = if k = j then none else get l j := by
  induction l with
  | nil => simp [del, get]
  | cons p r ih =>
    obtain ⟨i, y⟩ := p
    simp only [del]
    split
    · rename_i h; subst h; rw [ih]; simp only [get]; split <;> simp_all
    · rename_i h
      simp only [get, ih]
      by_cases e : i = j
      · rw [if_pos e, if_neg (by omega), if_pos e]
      · rw [if_neg e, if_neg e]
def mapv {β : Type} (f : α → β) (l : List (Nat × α)) : List (Nat × β) :=
  match l with
  | [] => []
  | (j, y) :: r => (j, f y) :: mapv f r
theorem get_mapv {β : Type} (f : α → β) (l : List (Nat × α)) (k : Nat) : get (mapv f l) k = (get l k).map f := by
  induction l with
  | nil => rfl
  | cons p r ih => obtain ⟨i, y⟩ := p; simp only [mapv, get, ih]; split <;> simp
end

structure St where
  n : Nat                        -- how many slots the frame has
  env : List (Nat × SV)
  objs : List (Nat × Ob)

/-- whatever may speak of own block i is forgotten -/
def CV.kill (i : Nat) : CV → CV
  | .np j off => if j = i then .any else .np j off
  | .row j => if j = i then .any else .row j
  | .rp j sz k c => if j = i then .any else .rp j sz k c
  | .rv j sz k n => if j = i then .any else .rv j sz k n
  | .mp j => if j = i then .any else .mp j
  | .cl j => if j = i then .any else .cl j
  | x => x
def EV.kill (i : Nat) : EV → EV
  | .c x => .c (x.kill i)
  | .agg l => .agg (l.map (CV.kill i))
def SV.kill (i : Nat) : SV → SV
  | .e x => .e (x.kill i)
  | .tup l => .tup (l.map (EV.kill i))
def Ob.kill (i : Nat) : Ob → Ob
  | .cells T cs => .cells T (cs.map (CV.kill i))
  | .vec T r cs => .vec T r (cs.map (CV.kill i))
  | .fn f cs => .fn f (cs.map (CV.kill i))
  | o => o
def St.kill (σ : St) (i : Nat) : St := { σ with env := mapv (SV.kill i) σ.env, objs := mapv (Ob.kill i) (del σ.objs i) }
/-- what an operation changes: nothing; or these own blocks are forgotten, and the own blocks are these -/
abbrev Chg := Option (List Nat × List (Nat × Ob))
def killEnv : List Nat → List (Nat × SV) → List (Nat × SV)
  | [], e => e
  | k :: ks, e => killEnv ks (mapv (SV.kill k) e)
def St.app (σ : St) : Chg → St
  | none => σ
  | some (ks, ob) => { σ with env := killEnv ks σ.env, objs := ob }
def St.set (σ : St) (s : Nat) (x : SV) : St := { σ with env := put σ.env s x }
def St.obj (σ : St) (i : Nat) (o : Ob) : St := { σ with objs := put σ.objs i o }

/-- where own block i lies: a block, or the slice value of a row -/
abbrev Plc := Nat → Option (Nat ⊕ Value)
def blk : Nat ⊕ Value → Option Nat
  | .inl b => some b
  | .inr v => v.ownBlock

section
variable (M : Snap) (β : Plc)
def CVR : CV → Value → Prop
  | .any, _ => True
  | .und, v => v = undef
  | .d x, v => DR M x v
  | .nil, v => v = .slice none 0 0
  | .nilp, v => v = .pointer none
  | .dp cs, v => ∃ ad us, v = .pointer (some ad) ∧ Cells M cs us ∧ ∀ j u, us[j]? = some u → M.cell (ad.add j) = some u
  | .np i off, v => ∃ b, β i = some (.inl b) ∧ v = .pointer (some ⟨b, off, none⟩)
  | .row i, v => β i = some (.inr v) ∧ ∃ A n c, v = .slice A n c
  | .rp i sz k j, v => ∃ g m cap, β i = some (.inr (.slice (some ⟨g, 0, none⟩) m cap)) ∧ v = .pointer (some ⟨g, k * sz + j, none⟩)
  | .rv i sz k n, v => ∃ g m cap c, β i = some (.inr (.slice (some ⟨g, 0, none⟩) m cap)) ∧ v = .slice (some ⟨g, k * sz, none⟩) n c ∧ n ≤ c ∧ c ≤ maxLen ∧ k + c = cap
  | .mp i, v => ∃ b, β i = some (.inl b) ∧ v = .map (some b)
  | .nilm, v => v = .map none
  | .kb b, v => v = .bool b
  | .cl i, v => β i = some (.inr v) ∧ ∃ f a c, v = .func f a c
inductive CVs : List CV → List Value → Prop
  | nil : CVs [] []
  | cons {x u xs us} : CVR M β x u → u.oneCell' = true → CVs xs us → CVs (x :: xs) (u :: us)
def EVR : EV → Value → Prop
  | .c x, v => CVR M β x v
  | .agg l, v => ∃ vs, v = .agg vs ∧ CVs M β l vs.toList
inductive EVs : List EV → List Value → Prop
  | nil : EVs [] []
  | cons {x u xs us} : EVR M β x u → EVs xs us → EVs (x :: xs) (u :: us)
def SVR : SV → Value → Prop
  | .e x, v => EVR M β x v
  | .tup l, v => ∃ vs, v = .tuple vs ∧ EVs M β l vs.toList
/-- a datum as one value -/
def Pk (ag : Bool) (t : Ty) (x : t.El) (v : Value) : Prop := if ag = true then ∃ us : Array Value, v = .agg us ∧ Cells M (split t x) us.toList else Cells M (split t x) [v]
inductive Ents (ka va : Bool) (kt vt : Ty) : List (kt.El × vt.El) → List MapEntry → Prop
  | nil : Ents ka va kt vt [] []
  | cons {p e l es} : Pk M ka kt p.1 e.key → Pk M va vt p.2 e.val → Ents ka va kt vt l es → Ents ka va kt vt (p :: l) (e :: es)
/-- how many a slice has room for -/
def capOf : Value → Nat
  | .slice _ _ c => c
  | _ => 0
def OR (w : World) : Ob → Nat ⊕ Value → Prop
  | .cells T cs, .inl b => ∃ vs : Array Value, w.heap[b]? = some (.cells vs T (0, 0)) ∧ CVs M β cs vs.toList
  | .row t T l, .inr v => ∃ xs, w.ownsRow 0 T t.sz v l.length xs ∧ Flat M t.sz (rows t l) xs
  | .map ka va kt vt l, .inl b => ∃ es c, w.heap[b]? = some (.map es c) ∧ Ents M ka va kt vt l es.toList
  | .vec T r l, .inr v => ∃ xs, w.ownsRow 0 T 1 v l.length xs ∧ CVs M β l xs ∧ r ≤ capOf v
  | .fn f l, .inr v => ∃ cs : Array Value, v = .func (.func f) #[] cs ∧ CVs M β l cs.toList
  | _, _ => False
end

/-- the world that the call found, and the blocks of it that were lent to the call -/
structure Base extends World where
  L : Nat → Prop
  gh : Nat → Option Value
/-- slots from this number on are those of the frames that wait -/
def GH : Nat := 100000
def look (tm : Array Value) (gh : Nat → Option Value) (s : Nat) : Option Value := if s < GH then tm[s]? else gh (s - GH)
structure BelowL (b : Base) (w : World) : Prop where
  os : w.os = b.os
  tape : w.tape = b.tape
  output : w.output = b.output
  size : b.heap.size ≤ w.heap.size
  block : ∀ k, k < b.heap.size → ¬ b.L k → w.heap[k]? = b.heap[k]?
theorem BelowL.world {b : Base} {w w' : World} (h : BelowL b w) (h' : Below w.heap.size w w') : BelowL b w' :=
  ⟨h'.os.trans h.os, h'.tape.trans h.tape, h'.output.trans h.output, Nat.le_trans h.size h'.size, fun k hk hl => (h'.block k (Nat.lt_of_lt_of_le hk h.size)).trans (h.block k hk hl)⟩
theorem BelowL.grown {b : Base} {w w' : World} {row : Option Nat} (h : BelowL b w) (hg : w.grownBy w' row) (hr : ∀ k, row = some k → b.heap.size ≤ k ∨ b.L k) : BelowL b w' :=
  ⟨hg.os.trans h.os, hg.tape.trans h.tape, hg.output.trans h.output, Nat.le_trans h.size hg.size, fun k hk hl => (hg.block k (Nat.lt_of_lt_of_le hk h.size) fun e => by
    rcases hr k e.symm with h1 | h1
    · omega
    · exact hl h1).trans (h.block k hk hl)⟩
theorem BelowL.row {b : Base} {w : World} (h : BelowL b w) {g : Nat} (hg : b.heap.size ≤ g ∨ b.L g) {cur : Array Value} : BelowL b (w.setRow g cur) :=
  ⟨h.os, h.tape, h.output, by simpa using h.size, fun k hk hl => (setRow_other w g k cur fun e => by
    subst e
    rcases hg with h1 | h1
    · omega
    · exact hl h1).trans (h.block k hk hl)⟩

structure Rel (w0 : Base) (M0 M : Snap) (β : Plc) (σ : St) (tm : Array Value) (w : World) : Prop where
  below : BelowL w0 w
  snap : ∀ b o, M b = some o → w.heap[b]? = some o
  mono : ∀ b o, M0 b = some o → M b = some o
  newM : ∀ b o, M b = some o → M0 b = some o ∨ w0.heap.size ≤ b ∨ w0.L b
  apart : ∀ i p b, β i = some p → blk p = some b → M b = none ∧ (w0.heap.size ≤ b ∨ w0.L b) ∧ b < w.heap.size
  inj : ∀ i j p q b, β i = some p → β j = some q → blk p = some b → blk q = some b → i = j
  size : σ.n ≤ tm.size
  small : σ.n ≤ GH
  env : ∀ s x, get σ.env s = some x → ∃ v, look tm w0.gh s = some v ∧ SVR M β x v
  objs : ∀ i o, get σ.objs i = some o → ∃ p, β i = some p ∧ OR M β w o p

section
variable {M M' : Snap} {β β' : Plc}
theorem CVR.weak (h : ∀ b o, M b = some o → M' b = some o) (hb : ∀ i p, β i = some p → β' i = some p) {x : CV} {v : Value} (hr : CVR M β x v) : CVR M' β' x v := by
  cases x with
  | any => trivial
  | und => exact hr
  | d x => exact DR.mono h hr
  | nil => exact hr
  | nilp => exact hr
  | dp cs => obtain ⟨ad, us, e, hc, hm⟩ := hr; exact ⟨ad, us, e, hc.mono h, fun j u hu => Snap.cell_mono h (hm j u hu)⟩
  | np i off => obtain ⟨b, e, hv⟩ := hr; exact ⟨b, hb _ _ e, hv⟩
  | row i => exact ⟨hb _ _ hr.1, hr.2⟩
  | rp i sz k j => obtain ⟨g, m, cap, e, hv⟩ := hr; exact ⟨g, m, cap, hb _ _ e, hv⟩
  | rv i sz k n => obtain ⟨g, m, cap, c, e, hv⟩ := hr; exact ⟨g, m, cap, c, hb _ _ e, hv⟩
  | mp i => obtain ⟨b, e, hv⟩ := hr; exact ⟨b, hb _ _ e, hv⟩
  | nilm => exact hr
  | kb b => exact hr
  | cl i => exact ⟨hb _ _ hr.1, hr.2⟩
theorem CVs.weak (h : ∀ b o, M b = some o → M' b = some o) (hb : ∀ i p, β i = some p → β' i = some p) {l : List CV} {vs : List Value} (hr : CVs M β l vs) : CVs M' β' l vs := by
  induction hr with
  | nil => exact .nil
  | cons h1 h2 _ ih => exact .cons (h1.weak h hb) h2 ih
theorem EVR.weak (h : ∀ b o, M b = some o → M' b = some o) (hb : ∀ i p, β i = some p → β' i = some p) {x : EV} {v : Value} (hr : EVR M β x v) : EVR M' β' x v := by
  cases x with
  | c x => exact CVR.weak h hb hr
  | agg l => obtain ⟨vs, e, hc⟩ := hr; exact ⟨vs, e, hc.weak h hb⟩
theorem EVs.weak (h : ∀ b o, M b = some o → M' b = some o) (hb : ∀ i p, β i = some p → β' i = some p) {l : List EV} {vs : List Value} (hr : EVs M β l vs) : EVs M' β' l vs := by
  induction hr with
  | nil => exact .nil
  | cons h1 _ ih => exact .cons (h1.weak h hb) ih
theorem SVR.weak (h : ∀ b o, M b = some o → M' b = some o) (hb : ∀ i p, β i = some p → β' i = some p) {x : SV} {v : Value} (hr : SVR M β x v) : SVR M' β' x v := by
  cases x with
  | e x => exact EVR.weak h hb hr
  | tup l => obtain ⟨vs, e, hc⟩ := hr; exact ⟨vs, e, hc.weak h hb⟩
/-- own block i's place is taken away, or turned: what no longer speaks of it holds on -/
theorem CVR.kill {i : Nat} (hb : ∀ j p, j ≠ i → β j = some p → β' j = some p) {x : CV} {v : Value} (hr : CVR M β x v) : CVR M β' (x.kill i) v := by
  cases x with
  | np j off =>
    simp only [CV.kill]
    split
    · trivial
    · rename_i hne; obtain ⟨b, e, hv⟩ := hr; exact ⟨b, hb _ _ hne e, hv⟩
  | row j =>
    simp only [CV.kill]
    split
    · trivial
    · rename_i hne; exact ⟨hb _ _ hne hr.1, hr.2⟩
  | rp j sz k c =>
    simp only [CV.kill]
    split
    · trivial
    · rename_i hne; obtain ⟨g, m, cap, e, hv⟩ := hr; exact ⟨g, m, cap, hb _ _ hne e, hv⟩
  | mp j =>
    simp only [CV.kill]
    split
    · trivial
    · rename_i hne; obtain ⟨b, e, hv⟩ := hr; exact ⟨b, hb _ _ hne e, hv⟩
  | nilm => exact hr
  | kb b => exact hr
  | rv j sz k n =>
    simp only [CV.kill]
    split
    · trivial
    · rename_i hne; obtain ⟨g, m, cap, c, e, hv⟩ := hr; exact ⟨g, m, cap, c, hb _ _ hne e, hv⟩
  | cl j =>
    simp only [CV.kill]
    split
    · trivial
    · rename_i hne; exact ⟨hb _ _ hne hr.1, hr.2⟩
  | any => trivial
  | und => exact hr
  | d x => exact hr
  | nil => exact hr
  | nilp => exact hr
  | dp cs => exact hr
theorem CVs.kill {i : Nat} (hb : ∀ j p, j ≠ i → β j = some p → β' j = some p) {l : List CV} {vs : List Value} (hr : CVs M β l vs) : CVs M β' (l.map (CV.kill i)) vs := by
  induction hr with
  | nil => exact .nil
  | cons h1 h2 _ ih => exact .cons (h1.kill hb) h2 ih
theorem EVR.kill {i : Nat} (hb : ∀ j p, j ≠ i → β j = some p → β' j = some p) {x : EV} {v : Value} (hr : EVR M β x v) : EVR M β' (x.kill i) v := by
  cases x with
  | c x => exact CVR.kill hb hr
  | agg l => obtain ⟨vs, e, hc⟩ := hr; exact ⟨vs, e, hc.kill hb⟩
theorem EVs.kill {i : Nat} (hb : ∀ j p, j ≠ i → β j = some p → β' j = some p) {l : List EV} {vs : List Value} (hr : EVs M β l vs) : EVs M β' (l.map (EV.kill i)) vs := by
  induction hr with
  | nil => exact .nil
  | cons h1 _ ih => exact .cons (h1.kill hb) ih
theorem SVR.kill {i : Nat} (hb : ∀ j p, j ≠ i → β j = some p → β' j = some p) {x : SV} {v : Value} (hr : SVR M β x v) : SVR M β' (x.kill i) v := by
  cases x with
  | e x => exact EVR.kill hb hr
  | tup l => obtain ⟨vs, e, hc⟩ := hr; exact ⟨vs, e, hc.kill hb⟩
theorem Pk.mono {ag : Bool} {t : Ty} {x : t.El} {v : Value} (h : ∀ b o, M b = some o → M' b = some o) (hr : Pk M ag t x v) : Pk M' ag t x v := by
  unfold Pk at hr ⊢
  split
  · rename_i e; rw [if_pos e] at hr; obtain ⟨us, e, hc⟩ := hr; exact ⟨us, e, hc.mono h⟩
  · rename_i e; rw [if_neg e] at hr; exact hr.mono h
theorem Ents.mono {ka va : Bool} {kt vt : Ty} {l : List (kt.El × vt.El)} {es : List MapEntry} (h : ∀ b o, M b = some o → M' b = some o) (hr : Ents M ka va kt vt l es) : Ents M' ka va kt vt l es := by
  induction hr with
  | nil => exact .nil
  | cons h1 h2 _ ih => exact .cons (h1.mono h) (h2.mono h) ih
theorem OR.weak {w : World} (h : ∀ b o, M b = some o → M' b = some o) (hb : ∀ i p, β i = some p → β' i = some p) {o : Ob} {p : Nat ⊕ Value} (hr : OR M β w o p) : OR M' β' w o p := by
  cases o <;> cases p <;> try exact hr.elim
  · obtain ⟨vs, e, hc⟩ := hr; exact ⟨vs, e, hc.weak h hb⟩
  · obtain ⟨xs, e, hc⟩ := hr; exact ⟨xs, e, hc.mono h⟩
  · obtain ⟨es, c, e, hc⟩ := hr; exact ⟨es, c, e, hc.mono h⟩
  · obtain ⟨xs, e, hc, hr⟩ := hr; exact ⟨xs, e, hc.weak h hb, hr⟩
  · obtain ⟨cs, e, hc⟩ := hr; exact ⟨cs, e, hc.weak h hb⟩
theorem CVs.length_ {l : List CV} {vs : List Value} (h : CVs M β l vs) : vs.length = l.length := by
  induction h with
  | nil => rfl
  | cons _ _ _ ih => simp [ih]
theorem OR.kill {w : World} {i : Nat} (hb : ∀ j p, j ≠ i → β j = some p → β' j = some p) {o : Ob} {p : Nat ⊕ Value} (hr : OR M β w o p) : OR M β' w (o.kill i) p := by
  cases o <;> cases p <;> try exact hr.elim
  · obtain ⟨vs, e, hc⟩ := hr; exact ⟨vs, e, hc.kill hb⟩
  · exact hr
  · exact hr
  · obtain ⟨xs, e, hc, hr⟩ := hr; exact ⟨xs, by simpa using e, hc.kill hb, hr⟩
  · obtain ⟨cs, e, hc⟩ := hr; exact ⟨cs, e, hc.kill hb⟩
/-- a world in which the block itself is as it was -/
theorem OR.world {w w' : World} {o : Ob} {p : Nat ⊕ Value} (hk : ∀ b, blk p = some b → w'.heap[b]? = w.heap[b]?) (hr : OR M β w o p) : OR M β w' o p := by
  cases o <;> cases p <;> try exact hr.elim
  · obtain ⟨vs, e, hc⟩ := hr; exact ⟨vs, by rw [hk _ rfl]; exact e, hc⟩
  · obtain ⟨xs, ⟨h1, h2⟩, hc⟩ := hr
    refine ⟨xs, ⟨h1, ?_⟩, hc⟩
    rcases h2 with h2 | ⟨g, cap, cur, rfl, hb, hh, r⟩
    · exact .inl h2
    · exact .inr ⟨g, cap, cur, rfl, hb, by rw [hk g rfl]; exact hh, r⟩
  · obtain ⟨es, c, e, hc⟩ := hr; exact ⟨es, c, by rw [hk _ rfl]; exact e, hc⟩
  · obtain ⟨xs, ⟨h1, h2⟩, hc, hr⟩ := hr
    refine ⟨xs, ⟨h1, ?_⟩, hc, hr⟩
    rcases h2 with h2 | ⟨g, cap, cur, rfl, hb, hh, r⟩
    · exact .inl h2
    · exact .inr ⟨g, cap, cur, rfl, hb, by rw [hk g rfl]; exact hh, r⟩
  · exact hr
end

section
variable {w0 : Base} {w : World} {M0 M : Snap} {β : Plc} {σ : St} {tm : Array Value}
/-- a slot is written -/
theorem Rel.set (h : Rel w0 M0 M β σ tm w) {s : Nat} (hs : s < σ.n) {x : SV} {v : Value} (hx : SVR M β x v) : Rel w0 M0 M β (σ.set s x) (tm.setIfInBounds s v) w := by
  have hsz := h.size
  have hsm := h.small
  refine { h with size := by simpa [St.set] using h.size, env := fun t y hy => ?_ }
  simp only [St.set, get_put] at hy
  split at hy
  · rename_i e; subst e
    cases hy
    exact ⟨v, by unfold look; rw [if_pos (by omega), Array.getElem?_setIfInBounds_self_of_lt (by omega)], hx⟩
  · rename_i hne
    obtain ⟨u, hu, hr⟩ := h.env t y hy
    refine ⟨u, ?_, hr⟩
    unfold look at hu ⊢
    split
    · rename_i e; rw [if_pos e] at hu; rw [Array.getElem?_setIfInBounds_ne hne]; exact hu
    · rename_i e; rw [if_neg e] at hu; exact hu
/-- the world has new blocks, or has drawn: nothing else -/
theorem Rel.world (h : Rel w0 M0 M β σ tm w) {w' : World} (hb : Below w.heap.size w w') : Rel w0 M0 M β σ tm w' := by
  have hlt : ∀ b o, M b = some o → b < w.heap.size := fun b o hm => (Array.getElem?_eq_some_iff.1 (h.snap b o hm)).1
  refine { h with
    below := h.below.world hb
    snap := fun b o hm => by rw [hb.block b (hlt b o hm)]; exact h.snap b o hm
    apart := fun i p b hi hp => ?_
    objs := fun i o ho => ?_ }
  · obtain ⟨h1, h2, h3⟩ := h.apart i p b hi hp
    exact ⟨h1, h2, Nat.lt_of_lt_of_le h3 hb.size⟩
  · obtain ⟨p, hi, ho⟩ := h.objs i o ho
    exact ⟨p, hi, ho.world fun b hp => hb.block b (h.apart i p b hi hp).2.2⟩
/-- a new block, kept among the call's own -/
theorem Rel.alloc (h : Rel w0 M0 M β σ tm w) {T : TypeId} {cs : List CV} {vs : Array Value} (hc : CVs M β cs vs.toList) {i : Nat} (hn : β i = none) :
    ∃ β', β' i = some (.inl w.heap.size) ∧ Rel w0 M0 M β' (σ.obj i (.cells T cs)) tm (w.alloc (.cells vs T)) := by
  have hb : ∀ j p, β j = some p → (fun j => if j = i then some (.inl w.heap.size) else β j) j = some p := fun j p hj => by
    have : j ≠ i := fun e => by subst e; rw [hn] at hj; cases hj
    simp [this, hj]
  have hw := h.world (w' := w.alloc (.cells vs T)) ((Below.refl _ _).alloc (Nat.le_refl _) _)
  have hlt : ∀ b o, M b = some o → b < w.heap.size := fun b o hm => (Array.getElem?_eq_some_iff.1 (h.snap b o hm)).1
  refine ⟨fun j => if j = i then some (.inl w.heap.size) else β j, by simp, { hw with apart := ?_, inj := ?_, env := ?_, objs := ?_ }⟩
  · intro j p b hj hp
    by_cases e : j = i
    · subst e
      simp at hj; subst hj
      simp [blk] at hp; subst hp
      refine ⟨?_, .inl h.below.size, by simp⟩
      cases hm : M w.heap.size with
      | none => rfl
      | some o => have := hlt _ _ hm; omega
    · simp [e] at hj; exact hw.apart j p b hj hp
  · intro j k p q b hj hk hp hq
    by_cases e : j = i <;> by_cases e' : k = i
    · rw [e, e']
    · subst e
      simp [e'] at hj hk; subst hj
      simp [blk] at hp; subst hp
      have := (h.apart k q _ hk hq).2.2; omega
    · subst e'
      simp [e] at hj hk; subst hk
      simp [blk] at hq; subst hq
      have := (h.apart j p _ hj hp).2.2; omega
    · simp [e] at hj; simp [e'] at hk; exact h.inj j k p q b hj hk hp hq
  · intro s x hs
    obtain ⟨v, hv, hr⟩ := h.env s x hs
    exact ⟨v, hv, hr.weak (fun _ _ h => h) hb⟩
  · intro j o ho
    simp only [St.obj, get_put] at ho
    split at ho
    · rename_i e; subst e; cases ho
      exact ⟨.inl w.heap.size, by simp, vs, heap_alloc_new w _, hc.weak (fun _ _ h => h) hb⟩
    · obtain ⟨p, hp, hr⟩ := hw.objs j o ho
      exact ⟨p, hb j p hp, hr.weak (fun _ _ h => h) hb⟩
end
end Go.Proofs.YtjebfbkigkjboaaGreatDoor.Sy

/- The calculus, third part: trees of outcomes, layouts, and the operations that touch no memory. -/
namespace Go.Proofs.YtjebfbkigkjboaaGreatDoor.Sy
open Go.RowKit Kit

/-- outcomes: one, none, or by a truth value -/
inductive Tr (α : Type) where
  | ret (a : α)
  | fail
  | ite (b : Bool) (t e : Tr α)
  | both (t e : Tr α)            -- whichever of the two
def Tr.sat {α : Type} (K : α → Prop) : Tr α → Prop
  | .ret a => K a
  | .fail => False
  | .ite b t e => (b = true → t.sat K) ∧ (b = false → e.sat K)
  | .both t e => t.sat K ∧ e.sat K
def Tr.bind {α β : Type} : Tr α → (α → Tr β) → Tr β
  | .ret a, f => f a
  | .fail, _ => .fail
  | .ite b t e, f => .ite b (t.bind f) (e.bind f)
  | .both t e, f => .both (t.bind f) (e.bind f)
theorem Tr.sat_bind {α β : Type} {K : β → Prop} {f : α → Tr β} : ∀ {t : Tr α}, (t.bind f).sat K → t.sat fun a => (f a).sat K
  | .ret _, h => h
  | .fail, h => h
  | .ite _ _ _, h => ⟨fun e => Tr.sat_bind (h.1 e), fun e => Tr.sat_bind (h.2 e)⟩
  | .both _ _, h => ⟨Tr.sat_bind h.1, Tr.sat_bind h.2⟩
theorem Tr.sat_iff {α : Type} {K : α → Prop} : ∀ {t : Tr α}, t.sat K → ∃ a, K a
  | .ret a, h => ⟨a, h⟩
  | .fail, h => h.elim
  | .ite b t e, h => by
    cases b
    · exact Tr.sat_iff (h.2 rfl)
    · exact Tr.sat_iff (h.1 rfl)
  | .both _ _, h => Tr.sat_iff h.1
def Tr.need (b : Bool) {α : Type} (t : Tr α) : Tr α := .ite b t .fail
theorem Tr.sat_need {α : Type} {K : α → Prop} {b : Bool} {t : Tr α} (h : (Tr.need b t).sat K) : b = true ∧ t.sat K := by
  cases b
  · exact (h.2 rfl).elim
  · exact ⟨rfl, h.1 rfl⟩
def Tr.opt {α : Type} : Option α → Tr α
  | some a => .ret a
  | none => .fail

structure Lay where
  size : Nat
  bytes : Nat
  zero : Value
  desc : TypeDesc
  ty : Option Ty
abbrev Tbl := List (Nat × Lay)
def TblOk (P : Program) (tbl : Tbl) : Prop := ∀ t l, get tbl t = some l → (P.info? t).map (fun i => (i.zero, i.size, i.bytes)) = some (some l.zero, l.size, l.bytes) ∧ P.underlying t = some l.desc
theorem TblOk.nil (P : Program) : TblOk P [] := fun _ _ h => by cases h
theorem TblOk.cons {P : Program} {t : Nat} {l : Lay} {tbl : Tbl} (h1 : (P.info? t).map (fun i => (i.zero, i.size, i.bytes)) = some (some l.zero, l.size, l.bytes)) (h2 : P.underlying t = some l.desc) (h : TblOk P tbl) : TblOk P ((t, l) :: tbl) := by
  intro t' l' h'
  simp only [get] at h'
  split at h'
  · rename_i e; subst e; cases h'; exact ⟨h1, h2⟩
  · exact h t' l' h'

def constC : Value → CV
  | .bool b => .kb b
  | .int k n => .d (.v (.int k n))
  | .string s => .d (.v (.string s))
  | .slice none 0 0 => .nil
  | .pointer none => .nilp
  | .map none => .nilm
  | _ => .any
def constE : Value → EV
  | .agg cs => if cs.toList.all (·.oneCell') then .agg (cs.toList.map constC) else .c .any
  | v => .c (constC v)
theorem constC_ok (M : Snap) (β : Plc) (v : Value) : CVR M β (constC v) v := by
  unfold constC
  split <;> first | exact DR.v rfl | rfl | trivial
theorem CVs.consts (M : Snap) (β : Plc) : ∀ (l : List Value), (∀ u ∈ l, u.oneCell' = true) → CVs M β (l.map constC) l
  | [], _ => .nil
  | u :: l, h => .cons (constC_ok M β u) (h u (List.mem_cons_self ..)) (CVs.consts M β l fun x hx => h x (List.mem_cons_of_mem _ hx))
theorem constE_ok (M : Snap) (β : Plc) (v : Value) : EVR M β (constE v) v := by
  unfold constE
  split
  · rename_i cs
    split
    · rename_i h; exact ⟨cs, rfl, CVs.consts M β _ fun u hu => by simpa using List.all_eq_true.1 h u hu⟩
    · trivial
  · exact constC_ok M β v

def ev (σ : St) : Operand → SV
  | .tmp t => if t < GH then (get σ.env t).getD .any else .any
  | .const v => .e (constE v)
  | _ => .any
theorem ev_ok {w0 : Base} {w : World} {M0 M : Snap} {β : Plc} {σ : St} {a : Act} (h : Rel w0 M0 M β σ a.tmps w) (x : Operand) : SVR M β (ev σ x) (a.eval x) := by
  cases x with
  | tmp t =>
    simp only [ev, Act.eval]
    split
    · rename_i hlt
      cases e : get σ.env t with
      | none => trivial
      | some y =>
        obtain ⟨v, hv, hr⟩ := h.env t y e
        unfold look at hv
        rw [if_pos hlt] at hv
        simpa [Array.getD_eq_getD_getElem?, hv] using hr
    · trivial
  | const v => exact constE_ok M β v
  | global g => trivial
  | func f => trivial

/-- a known plain value -/
def SV.val : SV → Option Value
  | .e (.c (.d (.v x))) => some x
  | .e (.c (.kb b)) => some (.bool b)
  | _ => none
def SV.of (v : Value) : SV := .e (.c (.d (.v v)))
def SV.dat (x : D) : SV := .e (.c (.d x))
theorem SVR.val {M : Snap} {β : Plc} {x : SV} {v u : Value} (h : SVR M β x v) (hx : x.val = some u) : v = u ∧ scalar u = true := by
  unfold SV.val at hx
  split at hx
  · cases hx
    cases (show DR M (.v u) v from h) with
    | v h => exact ⟨rfl, h⟩
  · cases hx; exact ⟨h, rfl⟩
  · cases hx
theorem SVR.of {M : Snap} {β : Plc} {v : Value} (h : scalar v = true) : SVR M β (SV.of v) v := DR.v h

def fits (v : Value) : Bool :=
  match v with
  | .slice .. => false
  | _ => true

/-- a sum, or its like: of the widest signed kind only where it fits -/
def arith (k : IntKind) (n : Int) : Tr Value :=
  match k with
  | .i64 => .need (decide (-9223372036854775808 ≤ n ∧ n ≤ 9223372036854775807)) (.ret (.int .i64 n))
  | k => .ret (.int k (k.wrap n))
theorem wrap_i64 {n : Int} (h : -9223372036854775808 ≤ n ∧ n ≤ 9223372036854775807) : IntKind.i64.wrap n = n := by
  have e : IntKind.i64.wrap n = if (n % 18446744073709551616) ≥ 9223372036854775808 then n % 18446744073709551616 - 18446744073709551616 else n % 18446744073709551616 := by
    simp [IntKind.wrap, IntKind.bits, IntKind.signed]
  rw [e]
  split <;> omega
theorem arith_ok {k : IntKind} {n : Int} {K : Value → Prop} (h : (arith k n).sat K) : K (.int k (k.wrap n)) := by
  unfold arith at h
  split at h
  · obtain ⟨h0, h⟩ := Tr.sat_need h
    rw [wrap_i64 (by simpa using h0)]; exact h
  · exact h
/-- two plain values, an operator -/
def binS (op : BinOp) : Value → Value → Tr Value
  | .int k a, .int k' b =>
    match op with
    | .shl => .need (decide (0 ≤ b)) (.ret (.int k (k.wrap (a * 2 ^ (min b.toNat k.bits)))))
    | .shr => .need (decide (0 ≤ b)) (.ret (.int k (a.fdiv (2 ^ (min b.toNat k.bits)))))
    | _ => if k = k' then
      match op with
      | .add => arith k (a + b)
      | .sub => arith k (a - b)
      | .mul => arith k (a * b)
      | .quo => .need (b != 0) (arith k (a.tdiv b))
      | .rem => .need (b != 0) (.ret (.int k (a.tmod b)))
      | .and => .ret (.int k (k.wrap (BitVec.ofInt k.bits a &&& BitVec.ofInt k.bits b).toNat))
      | .or => .ret (.int k (k.wrap (BitVec.ofInt k.bits a ||| BitVec.ofInt k.bits b).toNat))
      | .xor => .ret (.int k (k.wrap (BitVec.ofInt k.bits a ^^^ BitVec.ofInt k.bits b).toNat))
      | .eql => .ret (.bool (a == b))
      | .neq => .ret (.bool (a != b))
      | .lss => .ret (.bool (decide (a < b)))
      | .leq => .ret (.bool (decide (a ≤ b)))
      | .gtr => .ret (.bool (decide (b < a)))
      | .geq => .ret (.bool (decide (b ≤ a)))
      | _ => .fail
      else .fail
  | .bool a, .bool b =>
    match op with
    | .eql => .ret (.bool (a == b))
    | .neq => .ret (.bool (!(a == b)))
    | _ => .fail
  | .string a, .string b =>
    match op with
    | .eql => .ret (.bool (decide (a = b)))
    | .neq => .ret (.bool (!decide (a = b)))
    | .add => .need (decide (a.size + b.size ≤ 9223372036854775807)) (.ret (.string (a ++ b)))
    | _ => .fail
  | _, _ => .fail

theorem toList_beq (a b : ByteArray) : (a.toList == b.toList) = decide (a = b) := by
  rw [ByteArray.toList_eq, ByteArray.toList_eq, Bool.eq_iff_iff]
  simp only [beq_iff_eq, decide_eq_true_eq, Array.toList_inj]
  exact ⟨fun h => by cases a; cases b; simp_all, fun h => by rw [h]⟩

theorem Tr.sat_ret {α : Type} {K : α → Prop} {a : α} : (Tr.ret a).sat K ↔ K a := Iff.rfl

theorem binOp_eql_bool_ (t : TypeId) (a b : Bool) : binOp .eql t (.bool a) (.bool b) = (do pure (.bool (← Op.equal t (.bool a) (.bool b)))) := rfl
theorem binOp_neq_bool_ (t : TypeId) (a b : Bool) : binOp .neq t (.bool a) (.bool b) = (do pure (.bool (!(← Op.equal t (.bool a) (.bool b))))) := rfl
theorem binOp_str_ (op : BinOp) (t : TypeId) (a b : ByteArray) : binOp op t (.string a) (.string b) = Op.stringOp op a b := by cases op <;> rfl

theorem equalIn_bool {P : Program} {t : TypeId} (hu : P.underlying t = some .bool) (d : Nat) (a b : Bool) (w : World) : (Op.equalIn (d + 1) t (.bool a) (.bool b)).run P w = .ok (a == b) w := by
  simp [Op.equalIn, run_underlying hu]
theorem equal_bool {P : Program} {t : TypeId} (hu : P.underlying t = some .bool) (a b : Bool) (w : World) : (Op.equal t (.bool a) (.bool b)).run P w = .ok (a == b) w :=
  equalIn_bool hu 9999 a b w

/-- what an operator on two plain values says, and that the run says so -/
def Says (P : Program) (op : BinOp) (t : TypeId) (x y : Operand) (a b : Value) (w : World) (v : Value) : Prop :=
  scalar v = true ∧ (do eqGuard op t x y a b; binOp op t a b : Sem Value).run P w = .ok v w

theorem bin_bool {P : Program} {t : TypeId} (hu : P.underlying t = some .bool) {op : BinOp} {x y : Operand} {a b : Bool} {K : Value → Prop} (h : (binS op (.bool a) (.bool b)).sat K) (w : World) :
    ∃ v, K v ∧ Says P op t x y (.bool a) (.bool b) w v := by
  cases op with
  | eql => exact ⟨_, h, rfl, by simp [eqGuard_at_bool, binOp_eql_bool_, equal_bool hu]⟩
  | neq => exact ⟨_, h, rfl, by simp [eqGuard_at_bool, binOp_neq_bool_, equal_bool hu]⟩
  | _ => exact h.elim

theorem bin_int {P : Program} {t : TypeId} {op : BinOp} {x y : Operand} {k k' : IntKind} {a b : Int} {K : Value → Prop} (h : (binS op (.int k a) (.int k' b)).sat K) (w : World) :
    ∃ v, K v ∧ Says P op t x y (.int k a) (.int k' b) w v := by
  by_cases hs : op = .shl
  · subst hs
    obtain ⟨h0, h⟩ := Tr.sat_need h
    simp only [decide_eq_true_eq] at h0
    exact ⟨_, h, rfl, by simp [eqGuard_shl, binOp, Op.shift, show ¬ b < 0 by omega]⟩
  by_cases hs' : op = .shr
  · subst hs'
    obtain ⟨h0, h⟩ := Tr.sat_need h
    simp only [decide_eq_true_eq] at h0
    exact ⟨_, h, rfl, by simp [eqGuard_shr, binOp, Op.shift, show ¬ b < 0 by omega]⟩
  by_cases hk : k = k'
  · subst hk
    cases op with
    | shl => exact absurd rfl hs
    | shr => exact absurd rfl hs'
    | add => simp only [binS, if_true] at h; exact ⟨_, arith_ok h, rfl, by rw [eqGuard_at_int, binOp_add]; rfl⟩
    | sub => simp only [binS, if_true] at h; exact ⟨_, arith_ok h, rfl, by rw [eqGuard_at_int, binOp_sub]; rfl⟩
    | mul => simp only [binS, if_true] at h; exact ⟨_, arith_ok h, rfl, by rw [eqGuard_at_int, binOp_mul]; rfl⟩
    | and => simp only [binS, if_true] at h; exact ⟨_, h, rfl, by rw [eqGuard_at_int, binOp_and]; rfl⟩
    | or => simp only [binS, if_true] at h; exact ⟨_, h, rfl, by rw [eqGuard_at_int, binOp_or]; rfl⟩
    | xor => simp only [binS, if_true] at h; exact ⟨_, h, rfl, by rw [eqGuard_at_int, binOp_xor]; rfl⟩
    | eql => simp only [binS, if_true] at h; exact ⟨_, h, rfl, by rw [eqGuard_at_int, binOp_eql]; rfl⟩
    | neq => simp only [binS, if_true] at h; exact ⟨_, h, rfl, by rw [eqGuard_at_int, binOp_neq]; rfl⟩
    | lss => simp only [binS, if_true] at h; exact ⟨_, h, rfl, by rw [eqGuard_at_int, binOp_lss]; rfl⟩
    | leq => simp only [binS, if_true] at h; exact ⟨_, h, rfl, by rw [eqGuard_at_int, binOp_leq]; rfl⟩
    | gtr => simp only [binS, if_true] at h; exact ⟨_, h, rfl, by rw [eqGuard_at_int, binOp_gtr]; rfl⟩
    | geq => simp only [binS, if_true] at h; exact ⟨_, h, rfl, by rw [eqGuard_at_int, binOp_geq]; rfl⟩
    | quo =>
      simp only [binS, if_true] at h
      obtain ⟨h0, h⟩ := Tr.sat_need h
      have h0' : b ≠ 0 := by simpa using h0
      exact ⟨_, arith_ok h, rfl, by rw [eqGuard_at_int, binOp_quo]; simp [Op.intDiv, h0']⟩
    | rem =>
      simp only [binS, if_true] at h
      obtain ⟨h0, h⟩ := Tr.sat_need h
      have h0' : b ≠ 0 := by simpa using h0
      exact ⟨_, h, rfl, by rw [eqGuard_at_int, binOp_rem]; simp [Op.intDiv, h0']⟩
    | andNot => simp only [binS, if_true] at h; exact h.elim
  · cases op <;> simp only [binS, if_neg hk] at h <;> first
      | exact absurd rfl hs
      | exact absurd rfl hs'
      | exact h.elim

theorem bin_str {P : Program} {t : TypeId} {op : BinOp} {x y : Operand} {a b : ByteArray} {K : Value → Prop} (h : (binS op (.string a) (.string b)).sat K) (w : World) :
    ∃ v, K v ∧ Says P op t x y (.string a) (.string b) w v := by
  cases op with
  | eql => exact ⟨_, h, rfl, by rw [eqGuard_at_string]; simp [binOp_str_, Op.stringOp, toList_beq]⟩
  | neq => exact ⟨_, h, rfl, by rw [eqGuard_at_string]; simp [binOp_str_, Op.stringOp, toList_beq]⟩
  | add =>
    obtain ⟨h0, h⟩ := Tr.sat_need h
    simp only [decide_eq_true_eq] at h0
    exact ⟨_, h, rfl, by rw [eqGuard_at_string]; simp only [binOp_str_, Sem.run_bind, Sem.run_pure, Result.andThen_ok]; exact run_string_add_sum w a b h0⟩
  | _ => exact h.elim

theorem binS_ok {P : Program} {tbl : Tbl} (ht : TblOk P tbl) {op : BinOp} {t : TypeId} {x y : Operand} {a b : Value} (ha : scalar a = true) (hb : scalar b = true)
    (hbool : ∀ u, a = .bool u → ∃ l, get tbl t = some l ∧ l.desc = .bool) {K : Value → Prop} (h : (binS op a b).sat K) (w : World) :
    ∃ v, K v ∧ Says P op t x y a b w v := by
  cases a with
  | bool u =>
    cases b with
    | bool v =>
      obtain ⟨l, hl, hd⟩ := hbool u rfl
      have hu := (ht t l hl).2
      rw [hd] at hu
      exact bin_bool hu h w
    | _ => exact h.elim
  | int k u =>
    cases b with
    | int k' v => exact bin_int h w
    | _ => exact h.elim
  | string u =>
    cases b with
    | string v => exact bin_str h w
    | _ => exact h.elim
  | _ => cases ha

def unS (op : UnOp) : Value → Tr Value
  | .bool b => match op with | .not => .ret (.bool (!b)) | _ => .fail
  | .int k n =>
    match op with
    | .neg => .ret (.int k (k.wrap (0 - n)))
    | .xor => .ret (.int k (k.wrap (BitVec.ofInt k.bits (if k.signed then -1 else k.max) ^^^ BitVec.ofInt k.bits n).toNat))
    | _ => .fail
  | _ => .fail
theorem unS_ok {P : Program} {op : UnOp} {a : Value} {K : Value → Prop} (h : (unS op a).sat K) (w : World) : ∃ v, K v ∧ scalar v = true ∧ (Op.unary op a).run P w = .ok v w := by
  cases a <;> simp only [unS, Tr.sat] at h <;> try exact h.elim
  · cases op <;> simp only [Tr.sat] at h <;> first | exact h.elim | exact ⟨_, h, rfl, rfl⟩
  · cases op <;> simp only [Tr.sat] at h <;> first | exact h.elim | exact ⟨_, h, rfl, rfl⟩
end Go.Proofs.YtjebfbkigkjboaaGreatDoor.Sy

/- The joins, first part: what a reading of an argument gives: the data that the calculus speaks of. -/
namespace Go.Proofs.YtjebfbkigkjboaaGreatDoor.Sy
open Go Go.RowKit Kit

/-- the numbers in it lie in their kinds -/
def Rg : (t : Ty) → t.El → Prop
  | .int k, n => (Lit.int k n).wf = true
  | .sl t, l => ∀ x ∈ l, Rg t x
  | .pair a b, x => Rg a x.1 ∧ Rg b x.2
  | _, _ => True
/-- these fields, from this place on, lay data of this kind -/
def layOk (P : Program) : Ty → Nat → List (Nat × TypeId) → Bool
  | .int k, off, [f] => f.1 == off && (match P.underlying f.2 with | some (.int k') => decide (k' = k) | _ => false) && P.cellsOf f.2 == 1
  | .bool, off, [f] => f.1 == off && (match P.underlying f.2 with | some .bool => true | _ => false) && P.cellsOf f.2 == 1
  | .str, off, [f] => f.1 == off && (match P.underlying f.2 with | some .string => true | _ => false) && P.cellsOf f.2 == 1
  | .sl t, off, [f] => f.1 == off && (match P.underlying f.2 with | some (.slice e) => P.cellsOf e == t.sz && layOk P t 0 [(0, e)] | _ => false) && P.cellsOf f.2 == 1
  | .pair a b, off, [f] => f.1 == off && (match P.underlying f.2 with
      | some (.struct fs) => (match fs.toList.map fun g => (g.offset, g.type) with | f0 :: f1 :: r => layOk P a 0 [f0] && layOk P b a.sz (f1 :: r) | _ => false)
      | _ => false) && P.cellsOf f.2 == a.sz + b.sz
  | .pair a b, off, f0 :: f1 :: r => layOk P a off [f0] && layOk P b (off + a.sz) (f1 :: r)
  | _, _, _ => false
def snap (w : World) : Snap := fun b => w.heap[b]?
theorem snap_cell {w : World} {a : Addr} {v : Value} (h : w.cell? a = some v) : (snap w).cell a = some v := by
  unfold World.cell? at h
  unfold Snap.cell snap
  split at h
  · rename_i c e f hm; rw [hm]; exact h
  · cases h
theorem take_one {l : List Value} {o n : Nat} {v : Value} (h : (l.drop o).take n = [v]) : (l.drop o).take 1 = [v] := by
  cases hd : l.drop o with
  | nil => rw [hd] at h; simp at h
  | cons x r =>
    rw [hd] at h
    cases n with
    | zero => simp at h
    | succ n => simp at h; simp [h.1]
theorem pick_all {α : Type} {d : α} {p : Nat → α → Prop} : ∀ (n : Nat), (∀ i, i < n → ∃ x, p i x) → ∃ l : List α, l.length = n ∧ ∀ i, i < n → p i (l.getD i d) := by
  intro n h
  refine ⟨(List.range n).map fun i => if hi : i < n then (h i hi).choose else d, by simp, fun i hi => ?_⟩
  have : ((List.range n).map fun i => if hi : i < n then (h i hi).choose else d).getD i d = (h i hi).choose := by
    rw [List.getD, List.getElem?_map, List.getElem?_range hi]; simp [hi]
  rw [this]; exact (h i hi).choose_spec
section
variable {H : Type} {enc : TypeId × Value → H} {P : Program} {w : World} {base : Nat} {spare : Nat → Bool} {held : Bool}
theorem lay_sz {P : Program} : ∀ (ty : Ty) (off : Nat) (fs : List (Nat × TypeId)), layOk P ty off fs = true → ∀ f, fs = [f] → f.1 = off ∧ P.cellsOf f.2 = ty.sz := by
  intro ty off fs h f e
  subst e
  cases ty <;> simp only [layOk, Bool.and_eq_true, beq_iff_eq] at h <;> exact ⟨h.1.1, h.2⟩
theorem open_lay : ∀ (ty : Ty) (off : Nat) (fs : List (Nat × TypeId)) (cs : List Value), layOk P ty off fs = true →
    (∀ f ∈ fs, ∃ n y, DataW.trod enc P w base spare held n f.2 ((cs.drop f.1).take (P.cellsOf f.2)) = some y) →
    ∃ x : ty.El, Cells (snap w) (split ty x) ((cs.drop off).take ty.sz) ∧ Rg ty x := by
  intro ty
  induction ty with
  | int k =>
    intro off fs cs h ht
    match fs, h with
    | [f], h =>
      simp only [layOk, Bool.and_eq_true, beq_iff_eq] at h
      obtain ⟨⟨h1, h2⟩, h3⟩ := h
      obtain ⟨n, y, hy⟩ := ht f (by simp)
      split at h2
      · rename_i k' hk
        have h2 := of_decide_eq_true h2
        subst h2
        obtain ⟨z, hz, -, hw⟩ := DataW.trod_int hk hy
        rw [h1] at hz
        refine ⟨z, ?_, hw⟩
        show Cells _ [D.v (.int _ z)] ((cs.drop off).take 1)
        rw [take_one hz]
        exact .cons (.v rfl) .nil
      · cases h2
  | bool =>
    intro off fs cs h ht
    match fs, h with
    | [f], h =>
      simp only [layOk, Bool.and_eq_true, beq_iff_eq] at h
      obtain ⟨⟨h1, h2⟩, h3⟩ := h
      obtain ⟨n, y, hy⟩ := ht f (by simp)
      split at h2
      · rename_i hk
        obtain ⟨z, hz, -⟩ := DataW.trod_bool hk hy
        rw [h1] at hz
        refine ⟨z, ?_, trivial⟩
        show Cells _ [D.v (.bool z)] ((cs.drop off).take 1)
        rw [take_one hz]
        exact .cons (.v rfl) .nil
      · cases h2
  | str =>
    intro off fs cs h ht
    match fs, h with
    | [f], h =>
      simp only [layOk, Bool.and_eq_true, beq_iff_eq] at h
      obtain ⟨⟨h1, h2⟩, h3⟩ := h
      obtain ⟨n, y, hy⟩ := ht f (by simp)
      split at h2
      · rename_i hk
        obtain ⟨z, hz, -, hw⟩ := DataW.trod_string hk hy
        rw [h1] at hz
        refine ⟨z, ?_, trivial⟩
        show Cells _ [D.v (.string z)] ((cs.drop off).take 1)
        rw [take_one hz]
        exact .cons (.v rfl) .nil
      · cases h2
  | sl t ih =>
    intro off fs cs h ht
    match fs, h with
    | [f], h =>
      simp only [layOk, Bool.and_eq_true, beq_iff_eq] at h
      obtain ⟨⟨h1, h2⟩, h3⟩ := h
      obtain ⟨n, y, hy⟩ := ht f (by simp)
      split at h2
      · rename_i e hk
        simp only [Bool.and_eq_true, beq_iff_eq] at h2
        obtain ⟨hsz, hl⟩ := h2
        rcases DataW.trod_slice hk hy with ⟨h0, -⟩ | ⟨a, len, cap, elems, rest, m, -, hz, -, hb, hlc, hcm, hlen, hel, -, -⟩
        · rw [h1] at h0
          refine ⟨[], ?_, fun x hx => by cases hx⟩
          show Cells _ [D.sl t []] ((cs.drop off).take 1)
          rw [take_one h0]
          exact .cons (DR.sl (t := t) (l := []) (A := none) (c := 0) (fun _ _ => undef) (Nat.le_refl _) (Nat.zero_le _) (fun h => absurd rfl h) (fun k j e x h => by simp [rows] at h)) .nil
        · rw [h1] at hz
          have each : ∀ i, i < len → ∃ x : t.El, Rg t x ∧ ∃ us : List Value, (∀ j, j < t.sz → w.cell? (a.add (i * t.sz + j)) = us[j]?) ∧ Cells (snap w) (split t x) us := by
            intro i hi
            have he := hel i hi
            have hi' : i < elems.length := by omega
            rw [List.getElem?_eq_getElem hi'] at he
            obtain ⟨us, hus, hy⟩ := Option.bind_eq_some_iff.1 he
            obtain ⟨-, hul, huc⟩ := World.cells?_some hus
            obtain ⟨x, hx, hr⟩ := ih 0 [(0, e)] us hl (fun f hf => by
              have hf' : f = (0, e) := by simpa using hf
              subst hf'
              exact ⟨m, _, by show DataW.trod enc P w base spare held m e (List.take (P.cellsOf e) (List.drop 0 us)) = _; rw [List.drop_zero, List.take_of_length_le (by omega)]; exact hy⟩)
            rw [List.drop_zero, List.take_of_length_le (by omega)] at hx
            refine ⟨x, hr, us, fun j hj => ?_, hx⟩
            rw [← huc j (by omega), Addr.add_add, hsz]
          obtain ⟨l, hll, hlp⟩ := pick_all (d := t.dflt) len each
          subst hll
          refine ⟨l, ?_, fun x hx => ?_⟩
          · show Cells _ [D.sl t l] ((cs.drop off).take 1)
            rw [take_one hz]
            have cell : ∀ i j, i < l.length → j < t.sz → ∃ v d, (snap w).cell (a.add (i * t.sz + j)) = some v ∧ (split t (l.getD i t.dflt))[j]? = some d ∧ DR (snap w) d v := by
              intro i j hi hj
              obtain ⟨-, us, hu, hc⟩ := hlp i hi
              have hjl : j < (split t (l.getD i t.dflt)).length := by rw [split_len]; exact hj
              obtain ⟨v, hv, hd⟩ := hc.at_ (List.getElem?_eq_getElem hjl)
              exact ⟨v, _, snap_cell (by rw [hu j hj]; exact hv), List.getElem?_eq_getElem hjl, hd⟩
            refine .cons (DR.sl (t := t) (l := l) (A := some a) (c := cap) (fun k j => ((snap w).cell (a.add (k * t.sz + j))).getD undef) hlc hcm (fun _ => ⟨a, rfl, fun k j hk hj => ?_⟩) (fun k j es d hes hd => ?_)) .nil
            · obtain ⟨v, -, h1, -⟩ := cell k j hk hj
              rw [h1]; rfl
            · have hk : k < l.length := by
                have := (List.getElem?_eq_some_iff.1 hes).1
                rwa [rows_len] at this
              rw [rows_at t hk] at hes
              cases hes
              have hj : j < t.sz := by
                have := (List.getElem?_eq_some_iff.1 hd).1
                rwa [split_len] at this
              obtain ⟨v, d', h1, h2, h3⟩ := cell k j hk hj
              rw [h2] at hd
              cases hd
              rw [h1]
              exact h3
          · obtain ⟨i, hi, rfl⟩ := List.getElem_of_mem hx
            have := (hlp i hi).1
            simpa [List.getD, List.getElem?_eq_getElem hi] using this
      · cases h2
  | pair a b iha ihb =>
    intro off fs cs h ht
    have key : ∀ (o : Nat) (c : List Value) (f0 f1 : Nat × TypeId) (r : List (Nat × TypeId)), layOk P a o [f0] = true → layOk P b (o + a.sz) (f1 :: r) = true →
        (∀ f ∈ f0 :: f1 :: r, ∃ n y, DataW.trod enc P w base spare held n f.2 ((c.drop f.1).take (P.cellsOf f.2)) = some y) → ∃ x : a.El × b.El, Cells (snap w) (split a x.1 ++ split b x.2) ((c.drop o).take (a.sz + b.sz)) ∧ (Rg a x.1 ∧ Rg b x.2) := by
      intro o c f0 f1 r k1 k2 kt
      obtain ⟨x1, hx1, hr1⟩ := iha o [f0] c k1 (fun f hf => by
        have hf' : f = f0 := by simpa using hf
        subst hf'
        exact kt f (by simp))
      obtain ⟨x2, hx2, hr2⟩ := ihb (o + a.sz) (f1 :: r) c k2 (fun f hf => kt f (List.mem_cons_of_mem _ hf))
      refine ⟨(x1, x2), ?_, hr1, hr2⟩
      rw [List.take_add, List.drop_drop]
      exact hx1.append hx2
    match fs, h with
    | [f], h =>
      simp only [layOk, Bool.and_eq_true, beq_iff_eq] at h
      obtain ⟨⟨h1, h2⟩, h3⟩ := h
      obtain ⟨n, y, hy⟩ := ht f (by simp)
      split at h2
      · rename_i gs hk
        obtain ⟨xs, m, -, -, hlen, hxl, hf⟩ := DataW.trod_struct hk hy
        split at h2
        · rename_i f0 f1 r hfs
          rw [Bool.and_eq_true] at h2
          rw [h1, h3] at hf
          obtain ⟨x, hx, hr⟩ := key 0 ((cs.drop off).take (a.sz + b.sz)) f0 f1 r h2.1 (by rw [Nat.zero_add]; exact h2.2) (fun f' hf' => by
            rw [← hfs] at hf'
            obtain ⟨g, hg, rfl⟩ := List.mem_map.1 hf'
            obtain ⟨i, hi, hgi⟩ := List.getElem_of_mem hg
            have hi' : i < gs.size := by simpa using hi
            have e1 : gs[i]? = some g := by rw [Array.getElem?_eq_getElem hi']; simpa using hgi
            have := hf i g e1
            exact ⟨m, xs[i]'(by omega), by rw [this, List.getElem?_eq_getElem (by omega)]⟩)
          rw [List.drop_zero, List.take_take, Nat.min_self] at hx
          exact ⟨x, hx, hr⟩
        · cases h2
      · cases h2
    | f0 :: f1 :: r, h =>
      simp only [layOk, Bool.and_eq_true] at h
      exact key off cs f0 f1 r h.1 h.2 ht
end
end Go.Proofs.YtjebfbkigkjboaaGreatDoor.Sy

/- The calculus, fourth part: what becomes of what is known when a block is forgotten, laid still, written, or grown. -/
namespace Go.Proofs.YtjebfbkigkjboaaGreatDoor.Sy
open Go.RowKit Kit

section
variable {w0 : Base} {w : World} {M0 M : Snap} {β : Plc} {σ : St} {tm : Array Value}
theorem Rel.lt (h : Rel w0 M0 M β σ tm w) {b : Nat} {o : Obj} (hm : M b = some o) : b < w.heap.size := (Array.getElem?_eq_some_iff.1 (h.snap b o hm)).1

/-- own block i is forgotten -/
theorem Rel.kill (h : Rel w0 M0 M β σ tm w) (i : Nat) : Rel w0 M0 M (fun j => if j = i then none else β j) (σ.kill i) tm w := by
  have hb : ∀ j p, j ≠ i → β j = some p → (fun j => if j = i then none else β j) j = some p := fun j p hj hp => by simp [hj, hp]
  have hs : ∀ {j p}, (fun j => if j = i then none else β j) j = some p → j ≠ i ∧ β j = some p := fun {j p} hj => by
    by_cases e : j = i
    · simp [e] at hj
    · simp [e] at hj; exact ⟨e, hj⟩
  refine { h with apart := fun j p b hj hp => h.apart j p b (hs hj).2 hp, inj := fun j k p q b hj hk => h.inj j k p q b (hs hj).2 (hs hk).2, env := fun s x hx => ?_, objs := fun j o ho => ?_ }
  · simp only [St.kill, get_mapv] at hx
    cases e : get σ.env s with
    | none => simp [e] at hx
    | some y =>
      simp [e] at hx; subst hx
      obtain ⟨v, hv, hr⟩ := h.env s y e
      exact ⟨v, hv, hr.kill hb⟩
  · simp only [St.kill, get_mapv, get_del] at ho
    by_cases e : i = j
    · simp [e] at ho
    · simp [e] at ho
      obtain ⟨y, hy, rfl⟩ := ho
      obtain ⟨p, hp, hr⟩ := h.objs j y hy
      exact ⟨p, hb j p (fun x => e x.symm) hp, hr.kill hb⟩

/-- what is known no longer: slots, own blocks -/
theorem Rel.less (h : Rel w0 M0 M β σ tm w) {σ' : St} (hn : σ'.n ≤ σ.n) (he : ∀ s x, get σ'.env s = some x → x = .any ∧ s < σ.n ∨ get σ.env s = some x) (ho : ∀ i o, get σ'.objs i = some o → get σ.objs i = some o) : Rel w0 M0 M β σ' tm w :=
  { h with
    size := Nat.le_trans hn h.size
    small := Nat.le_trans hn h.small
    env := fun s x hs => by
      rcases he s x hs with ⟨rfl, hlt⟩ | h'
      · have := h.size; have hsm := h.small; exact ⟨tm[s]'(by omega), by unfold look; rw [if_pos (by omega), Array.getElem?_eq_getElem (by omega)], trivial⟩
      · exact h.env s x h'
    objs := fun i o hi => h.objs i o (ho i o hi) }

/-- own row i is laid still: it reads as data from now on -/
theorem Rel.still (h : Rel w0 M0 M β σ tm w) {i : Nat} {t : Ty} {T : TypeId} {l : List t.El} (hi : get σ.objs i = some (.row t T l)) :
    ∃ M' v, β i = some (.inr v) ∧ DR M' (.sl t l) v ∧ (∀ b o, M b = some o → M' b = some o) ∧ Rel w0 M0 M' (fun j => if j = i then none else β j) (σ.kill i) tm w := by
  obtain ⟨p, hp, hr⟩ := h.objs i _ hi
  cases p with
  | inl b => exact hr.elim
  | inr v =>
    obtain ⟨xs, hown, hf⟩ := hr
    have hk := h.kill i
    rcases hown.2 with ⟨rfl, hn⟩ | ⟨g, cap, cur, rfl, hb, hg, hnc, hcm, hcs, htake⟩
    · have he : l = [] := List.eq_nil_of_length_eq_zero hn
      subst he
      exact ⟨M, _, hp, DR.nil t, fun _ _ h => h, hk⟩
    · have hMg : M g = none := (h.apart i _ g hp rfl).1
      have hm : ∀ b o, M b = some o → (fun b => if b = g then some (Obj.cells cur T (0, 0)) else M b) b = some o := fun b o hbo => by
        have : b ≠ g := fun e => by subst e; rw [hMg] at hbo; cases hbo
        simp [this, hbo]
      refine ⟨fun b => if b = g then some (Obj.cells cur T (0, 0)) else M b, _, hp, ?_, hm, ?_⟩
      · refine Flat.to_dr (hf.mono hm) hnc hcm (fun _ => ⟨_, rfl, fun j u hu => ?_⟩)
        have hadd : (⟨g, 0, none⟩ : Addr).add j = ⟨g, j, none⟩ := by unfold Addr.add; split <;> simp_all
        rw [hadd]
        simp only [Snap.cell, if_true]
        rw [← htake, List.getElem?_take] at hu
        split at hu
        · simpa using hu
        · cases hu
      · refine { hk with snap := ?_, mono := fun b o hb => hm b o (h.mono b o hb), newM := ?_, apart := ?_, env := ?_, objs := ?_ }
        · intro b o hb'
          by_cases e : b = g
          · subst e; simp at hb'; subst hb'; exact hg
          · simp [e] at hb'; exact h.snap b o hb'
        · intro b o hb'
          by_cases e : b = g
          · subst e; exact .inr (h.apart i _ _ hp rfl).2.1
          · simp [e] at hb'; exact h.newM b o hb'
        · intro j q b hj hq
          have h1 := hk.apart j q b hj hq
          have hji : j ≠ i := fun e => by simp [e] at hj
          have hne : b ≠ g := fun e => by
            subst e
            simp [hji] at hj
            exact hji (h.inj j i q _ b hj hp hq rfl)
          exact ⟨by simp [hne, h1.1], h1.2⟩
        · intro s x hs
          obtain ⟨u, hu, hr⟩ := hk.env s x hs
          exact ⟨u, hu, hr.weak hm (fun _ _ h => h)⟩
        · intro j o ho
          obtain ⟨q, hq, hr⟩ := hk.objs j o ho
          exact ⟨q, hq, hr.weak hm (fun _ _ h => h)⟩

/-- a new block, laid still at once -/
theorem Rel.laidB (h : Rel w0 M0 M β σ tm w) {T : TypeId} {vs : Array Value} :
    ∃ M', (∀ b o, M b = some o → M' b = some o) ∧ (∀ (j : Nat) (u : Value), vs.toList[j]? = some u → M'.cell ((⟨w.heap.size, 0, none⟩ : Addr).add j) = some u) ∧ Rel w0 M0 M' β σ tm (w.alloc (.cells vs T)) := by
  have hw := h.world (w' := w.alloc (.cells vs T)) ((Below.refl _ _).alloc (Nat.le_refl _) _)
  have hn : M w.heap.size = none := by
    cases e : M w.heap.size with
    | none => rfl
    | some o => have := h.lt e; omega
  have hm : ∀ b o, M b = some o → (fun b => if b = w.heap.size then some (Obj.cells vs T (0, 0)) else M b) b = some o := fun b o hb => by
    have : b ≠ w.heap.size := fun e => by subst e; rw [hn] at hb; cases hb
    simp [this, hb]
  refine ⟨fun b => if b = w.heap.size then some (Obj.cells vs T (0, 0)) else M b, hm, fun j u hu => ?_, { hw with snap := ?_, mono := fun b o hb => hm b o (h.mono b o hb), newM := ?_, apart := ?_, env := ?_, objs := ?_ }⟩
  · have hadd : (⟨w.heap.size, 0, none⟩ : Addr).add j = ⟨w.heap.size, j, none⟩ := by unfold Addr.add; split <;> simp_all
    rw [hadd]
    simpa [Snap.cell] using hu
  · intro b o hb
    by_cases e : b = w.heap.size
    · subst e; simp at hb; subst hb; exact heap_alloc_new w _
    · simp [e] at hb; exact hw.snap b o hb
  · intro b o hb
    by_cases e : b = w.heap.size
    · subst e; exact .inr (.inl h.below.size)
    · simp [e] at hb; exact h.newM b o hb
  · intro j q b hj hq
    have h1 := h.apart j q b hj hq
    have h2 := hw.apart j q b hj hq
    have hne : b ≠ w.heap.size := by omega
    exact ⟨by simp [hne, h1.1], h2.2⟩
  · intro s x hs
    obtain ⟨u, hu, hr⟩ := hw.env s x hs
    exact ⟨u, hu, hr.weak hm (fun _ _ h => h)⟩
  · intro j o ho
    obtain ⟨q, hq, hr⟩ := hw.objs j o ho
    exact ⟨q, hq, hr.weak hm (fun _ _ h => h)⟩

theorem Rel.laid (h : Rel w0 M0 M β σ tm w) {T : TypeId} {vs : Array Value} {l : List D} (hc : Cells M l vs.toList) :
    ∃ M', (∀ b o, M b = some o → M' b = some o) ∧ CVR M' β (.dp l) (.pointer (some ⟨w.heap.size, 0, none⟩)) ∧ Rel w0 M0 M' β σ tm (w.alloc (.cells vs T)) := by
  obtain ⟨M', hm, hc', hr⟩ := h.laidB (T := T) (vs := vs)
  exact ⟨M', hm, ⟨_, _, rfl, hc.mono hm, hc'⟩, hr⟩
/-- a new row, laid still at once -/
theorem Rel.laidS (h : Rel w0 M0 M β σ tm w) {T : TypeId} {vs : Array Value} {n : Nat} {t : Ty} {l : List t.El} (hc : Flat M t.sz (rows t l) vs.toList) (hn : l.length = n) (hm : n ≤ maxLen) :
    ∃ M', (∀ b o, M b = some o → M' b = some o) ∧ DR M' (.sl t l) (.slice (some ⟨w.heap.size, 0, none⟩) n n) ∧ Rel w0 M0 M' β σ tm (w.alloc (.cells vs T)) := by
  obtain ⟨M', hm', hc', hr⟩ := h.laidB (T := T) (vs := vs)
  subst hn
  exact ⟨M', hm', Flat.to_dr (hc.mono hm') (Nat.le_refl _) hm (fun _ => ⟨_, rfl, hc'⟩), hr⟩

/-- own block i is written: all else is as it was -/
theorem Rel.written (h : Rel w0 M0 M β σ tm w) {i b : Nat} (hb : β i = some (.inl b)) {T : TypeId} {cs : List CV} {vs old : Array Value} (hold : w.heap[b]? = some (.cells old T (0, 0))) (hc : CVs M β cs vs.toList) :
    Rel w0 M0 M β (σ.obj i (.cells T cs)) tm (w.setRow b vs) := by
  obtain ⟨hMb, hB, hlt⟩ := h.apart i _ b hb rfl
  have ho : ∀ k, k ≠ b → (w.setRow b vs).heap[k]? = w.heap[k]? := fun k hk => setRow_other w b k vs hk
  refine { h with below := ?_, snap := ?_, apart := ?_, objs := ?_ }
  · exact h.below.row hB
  · intro k o hk
    rw [ho k (fun e => by subst e; rw [hMb] at hk; cases hk)]
    exact h.snap k o hk
  · intro j q k hj hq
    obtain ⟨h1, h2, h3⟩ := h.apart j q k hj hq
    exact ⟨h1, h2, by simpa using h3⟩
  · intro j o hj
    simp only [St.obj, get_put] at hj
    by_cases e : i = j
    · subst e
      simp at hj; subst hj
      exact ⟨_, hb, vs, setRow_heap w b old vs T (0, 0) hold, hc⟩
    · simp [e] at hj
      obtain ⟨p, hp, hr⟩ := h.objs j o hj
      refine ⟨p, hp, hr.world fun k hk => ho k (fun e' => ?_)⟩
      subst e'
      exact e (h.inj i j _ p k hb hp rfl hk)

/-- own row i, if there is one, is forgotten -/
def St.killO (σ : St) : Option Nat → St
  | some k => σ.kill k
  | none => σ
def newC (ob : List (Nat × Ob)) (s : Nat) (o : Ob) : Chg := some ([s], put (mapv (Ob.kill s) (del ob s)) s o)
def objC (ob : List (Nat × Ob)) (i : Nat) (o : Ob) : Chg := some ([], put ob i o)
def growC (ob : List (Nat × Ob)) (i : Option Nat) (s : Nat) (o : Ob) : Chg :=
  match i with
  | none => newC ob s o
  | some k => some ([k, s], put (mapv (Ob.kill s) (del (mapv (Ob.kill k) (del ob k)) s)) s o)
theorem app_objC (σ : St) (i : Nat) (o : Ob) : σ.app (objC σ.objs i o) = σ.obj i o := rfl
theorem app_growC (σ : St) (i : Option Nat) (s : Nat) (o : Ob) : σ.app (growC σ.objs i s o) = ((σ.killO i).kill s).obj s o := by cases i <;> rfl
/-- own row i has grown, and goes under another number: all else is as it was -/
theorem Rel.grownO (h : Rel w0 M0 M β σ tm w) {i : Option Nat} {v v' : Value} (hv : ∀ k, i = some k → ∃ u, β k = some (.inr u) ∧ u.ownBlock = v.ownBlock) (hnil : i = none → v.ownBlock = none) {w' : World} (hg : w.grownBy w' v.ownBlock)
    (hat : v'.ownBlock = v.ownBlock ∨ v'.ownBlock = some w.heap.size) {n : Nat} {T : TypeId} {sz : Nat} {xs : List Value} (hown : v'.ownBlock = none ∨ w'.ownsRow 0 T sz v' n xs) {j : Nat} {o : Ob}
    (hor : ∀ β' : Plc, (∀ k p, k ≠ j → (∀ i', i = some i' → k ≠ i') → β k = some p → β' k = some p) → OR M β' w' o (.inr v')) :
    ∃ β', β' j = some (.inr v') ∧ Rel w0 M0 M β' (((σ.killO i).kill j).obj j o) tm w' := by
  -- first the elder row goes, and what went under the new number
  obtain ⟨β0, σ0, hσ0, h0, hβ0, hne0, hst0⟩ : ∃ β1 σ1, σ1 = σ.killO i ∧ Rel w0 M0 M β1 σ1 tm w ∧ (∀ k p, β1 k = some p → β k = some p) ∧ (∀ k p b, β1 k = some p → blk p = some b → v.ownBlock ≠ some b) ∧ (∀ k p, (∀ i', i = some i' → k ≠ i') → β k = some p → β1 k = some p) := by
    cases i with
    | none => exact ⟨β, σ, rfl, h, fun _ _ h => h, fun k p b _ _ => by rw [hnil rfl]; simp, fun _ _ _ h => h⟩
    | some k =>
      refine ⟨_, _, rfl, h.kill k, fun j p hj => ?_, fun j p b hj hp he => ?_, fun k' p hk hp => ?_⟩
      · by_cases e : j = k
        · simp [e] at hj
        · simpa [e] using hj
      · have hjk : j ≠ k := fun e => by simp [e] at hj
        simp [hjk] at hj
        obtain ⟨u, hu, hub⟩ := hv k rfl
        exact hjk (h.inj j k p _ b hj hu hp (show blk (.inr u) = some b from hub.trans he))
      · have := hk k rfl
        simp [this, hp]
  rw [← hσ0]
  have hs : ∀ {k p}, (fun k => if k = j then none else β0 k) k = some p → k ≠ j ∧ β0 k = some p := fun {k p} hk => by
    by_cases e : k = j
    · simp [e] at hk
    · simp [e] at hk; exact ⟨e, hk⟩
  obtain ⟨β1, σ1, hσ1, h1, hβ1, hne, hjn, hst1⟩ : ∃ β1 σ1, σ1 = σ0.kill j ∧ Rel w0 M0 M β1 σ1 tm w ∧ (∀ k p, β1 k = some p → β k = some p) ∧ (∀ k p b, β1 k = some p → blk p = some b → v.ownBlock ≠ some b) ∧ β1 j = none ∧ (∀ k p, k ≠ j → (∀ i', i = some i' → k ≠ i') → β k = some p → β1 k = some p) :=
    ⟨_, _, rfl, h0.kill j, fun k p hk => hβ0 k p (hs hk).2, fun k p b hk hp => hne0 k p b (hs hk).2 hp, by simp, fun k p hkj hk hp => by simp [hkj, hst0 k p hk hp]⟩
  rw [← hσ1]
  have hbv : ∀ b, v.ownBlock = some b → M b = none ∧ (w0.heap.size ≤ b ∨ w0.L b) := fun b hb => by
    cases i with
    | none => rw [hnil rfl] at hb; cases hb
    | some k =>
      obtain ⟨u, hu, hub⟩ := hv k rfl
      have := h.apart k _ b hu (show blk (.inr u) = some b from hub.trans hb)
      exact ⟨this.1, this.2.1⟩
  have hfar : ∀ k p b, β1 k = some p → blk p = some b → w'.heap[b]? = w.heap[b]? := fun k p b hk hp => hg.block b (h1.apart k p b hk hp).2.2 (fun e => hne k p b hk hp e.symm)
  have hb : ∀ k p, β1 k = some p → (fun k => if k = j then some (.inr v') else β1 k) k = some p := fun k p hk => by
    have : k ≠ j := fun e => by subst e; rw [hjn] at hk; cases hk
    simp [this, hk]
  have hv' : ∀ b, v'.ownBlock = some b → M b = none ∧ (w0.heap.size ≤ b ∨ w0.L b) ∧ b < w'.heap.size := fun b hb' => by
    have hl : b < w'.heap.size := by
      rcases hown with e | hown
      · rw [e] at hb'; cases hb'
      · exact (hown.lt b hb').2
    refine ⟨?_, ?_, hl⟩
    · rcases hat with e | e
      · rw [e] at hb'; exact (hbv b hb').1
      · rw [e] at hb'; cases hb'
        cases hm : M w.heap.size with
        | none => rfl
        | some o => have := h.lt hm; omega
    · rcases hat with e | e
      · rw [e] at hb'; exact (hbv b hb').2
      · rw [e] at hb'; cases hb'; exact .inl h.below.size
  have hnew : ∀ k p b, β1 k = some p → blk p = some b → v'.ownBlock ≠ some b := fun k p b hk hp he => by
    rcases hat with e | e
    · exact hne k p b hk hp (e ▸ he)
    · rw [e] at he; cases he
      have := (h1.apart k p _ hk hp).2.2; omega
  refine ⟨fun k => if k = j then some (.inr v') else β1 k, by simp, { h1 with below := ?_, snap := ?_, apart := ?_, inj := ?_, env := ?_, objs := ?_ }⟩
  · refine h.below.grown hg fun k hk => (hbv k hk).2
  · intro b o hm
    rw [hg.block b (h.lt hm) (fun e => by rw [(hbv b e.symm).1] at hm; cases hm)]
    exact h.snap b o hm
  · intro k p b hk hp
    by_cases e : k = j
    · subst e; simp at hk; subst hk; exact hv' b hp
    · simp [e] at hk
      obtain ⟨h2, h3, h4⟩ := h1.apart k p b hk hp
      exact ⟨h2, h3, Nat.lt_of_lt_of_le h4 hg.size⟩
  · intro k l p q b hk hl hp hq
    by_cases e : k = j <;> by_cases e' : l = j
    · rw [e, e']
    · subst e
      simp [e'] at hk hl; subst hk
      exact absurd hp (hnew l q b hl hq)
    · subst e'
      simp [e] at hk hl; subst hl
      exact absurd hq (hnew k p b hk hp)
    · simp [e] at hk; simp [e'] at hl; exact h1.inj k l p q b hk hl hp hq
  · intro s x hs
    obtain ⟨u, hu, hr⟩ := h1.env s x hs
    exact ⟨u, hu, hr.weak (fun _ _ h => h) hb⟩
  · intro k o ho
    simp only [St.obj, get_put] at ho
    by_cases e : j = k
    · subst e
      simp at ho; subst ho
      exact ⟨.inr v', by simp, hor _ fun k p hkj hk hp => hb k p (hst1 k p hkj hk hp)⟩
    · simp [e] at ho
      obtain ⟨p, hp, hr⟩ := h1.objs k o ho
      exact ⟨p, hb k p hp, (hr.world fun b hb' => hfar k p b hp hb').weak (fun _ _ h => h) hb⟩
theorem Rel.grown (h : Rel w0 M0 M β σ tm w) {i : Option Nat} {v v' : Value} (hv : ∀ k, i = some k → ∃ u, β k = some (.inr u) ∧ u.ownBlock = v.ownBlock) (hnil : i = none → v.ownBlock = none) {w' : World} (hg : w.grownBy w' v.ownBlock)
    (hat : v'.ownBlock = v.ownBlock ∨ v'.ownBlock = some w.heap.size) {n : Nat} {t : Ty} {T : TypeId} {l : List t.El} {xs : List Value} (hn : n = l.length) (hown : w'.ownsRow 0 T t.sz v' n xs) (hf : Flat M t.sz (rows t l) xs) {j : Nat} :
    ∃ β', β' j = some (.inr v') ∧ Rel w0 M0 M β' (((σ.killO i).kill j).obj j (.row t T l)) tm w' := by
  subst hn
  exact h.grownO hv hnil hg hat (.inr hown) fun _ _ => ⟨xs, hown, hf⟩
end

/-- append, from whatever source -/
theorem run_append_gen {P : Program} (w : World) (base : Nat) (t u ty e : TypeId) (i : TypeInfo) (z : Value) (size bytes : Nat) (ht : P.underlying t = some (.slice e)) {du : TypeDesc} (hu : P.underlying u = some du) (hdu : (∃ e', du = .slice e') ∨ du = .string)
    (hi : P.info? e = some i) (hz : i.zero = some z) (hsize : i.size = size) (hby : i.bytes = bytes) (hzs : z.cells.size = size) (hsz : 0 < size)
    (v : Value) (n : Nat) (xs : List Value) (hown : w.ownsRow base e size v n xs) (x : Value) (m : Nat) (news : List Value) (hl : news.length = m * size)
    (hlen : ∀ W : World, (Builtin.lenOf x).run P W = .ok m W) (hfc : ∀ W : World, W.heap = w.heap → (Builtin.firstCells size m x).run P W = .ok news.toArray W) (h1 : ∀ u ∈ news, u.oneCell' = true)
    (h63 : n + m ≤ maxLen) (hbytes : (n + m) * bytes ≤ 140737488355328) (hbase : base ≤ w.heap.size) :
    ∃ v' w', (Builtin.append_ #[t, u] ty #[v, x]).run P w = .ok v' w' ∧ w'.ownsRow base e size v' (n + m) (xs ++ news) ∧ w.grownBy w' v.ownBlock ∧ (v'.ownBlock = v.ownBlock ∨ v'.ownBlock = some w.heap.size) := by
  subst hsize
  subst hby
  have hsmall : n + m ≤ 9223372036854775807 := by simp only [maxLen] at h63; omega
  have hlen' : (xs ++ news).length = (n + m) * i.size := by rw [List.length_append, hown.1, hl, Nat.add_mul]
  have hgrow : ∀ (b : Option Addr) (cap : Nat) (olds : List Value), v = .slice b n cap → xs = olds → (∀ W : World, W.heap = w.heap → (Builtin.firstCells i.size n v).run P W = .ok olds.toArray W) → cap < n + m →
      ∃ v' w', (Builtin.append_ #[t, u] ty #[v, x]).run P w = .ok v' w' ∧ w'.ownsRow base e i.size v' (n + m) (xs ++ news) ∧ w.grownBy w' v.ownBlock ∧ (v'.ownBlock = v.ownBlock ∨ v'.ownBlock = some w.heap.size) := by
    intro b cap olds hv hx hfo hlt
    subst hx
    have hge := grownCap_ge w (n + m) cap e
    have hcm : grownCap w (n + m) cap e ≤ maxLen := grownCap_le_maxLen w (n + m) cap e h63
    have hn : ¬ (n + m ≤ cap) := by omega
    have h63' : ¬ (9223372036854775807 < ((n : Int) + (m : Int))) := by omega
    have h48' : ¬ (281474976710656 < Builtin.nextslicecap (n + m) cap * i.bytes) := by
      have := growslice_fits hlt hbytes; omega
    have hf := hfc w.drew rfl
    have hfo' := hfo w.drew rfl
    refine ⟨.slice (some ⟨w.heap.size, 0, none⟩) (n + m) (grownCap w (n + m) cap e), w.drew.alloc (.cells (xs.toArray ++ news.toArray ++ Builtin.zeroCells z.cells (grownCap w (n + m) cap e - (n + m))) e), ?_, ⟨hlen', .inr ⟨w.heap.size, _, _, rfl, hbase, heap_alloc_new w.drew _, hge, hcm, ?_, ?_⟩⟩, ⟨rfl, rfl, rfl, by simp, fun k hk _ => Below.heap_alloc w.drew _ k hk⟩, .inr rfl⟩
    · subst hv
      rcases hdu with ⟨e', rfl⟩ | rfl <;>
        (simp [Builtin.append_, run_underlying ht, run_underlying hu, sizeOf, typeInfo, zeroValue, hi, hz, hlen, hn, h63', h48', Question.forced, hf, hfo', newRow, grownCap]
         congr 2
         apply Array.ext'
         simp [List.append_assoc])
    · simp only [Array.size_append, List.size_toArray, size_zeroCells, hzs, hown.1, hl, ← Nat.add_mul]
      congr 1
      omega
    · simp only [Array.toList_append, List.append_assoc]
      rw [← List.append_assoc, ← hlen']
      exact List.take_left
  rcases hown.2 with ⟨rfl, rfl⟩ | ⟨g, cap, cur, rfl, hbg, hg, hnc, hcm, hcs, htake⟩
  · have hx : xs = [] := List.eq_nil_of_length_eq_zero (by simpa using hown.1)
    subst hx
    by_cases hm : m = 0
    · subst hm
      have hn : news = [] := List.eq_nil_of_length_eq_zero (by simpa using hl)
      subst hn
      refine ⟨.slice none 0 0, w, ?_, World.ownsRow_nil w base e i.size, ⟨rfl, rfl, rfl, Nat.le_refl _, fun _ _ _ => rfl⟩, .inl rfl⟩
      have hf := hfc w rfl
      rcases hdu with ⟨e', rfl⟩ | rfl <;> simp [Builtin.append_, run_underlying ht, run_underlying hu, sizeOf, typeInfo, hi, hlen, hf]
    · exact hgrow none 0 [] rfl rfl (fun W _ => by simp [Builtin.firstCells]) (by omega)
  · by_cases hroom : n + m ≤ cap
    · have hfit : n * i.size + news.length ≤ cur.size := by rw [hl, hcs, ← Nat.add_mul]; exact Nat.mul_le_mul_right _ hroom
      have hst := run_storeCells_at P g (n * i.size) e news 0 cur w hg (by simpa using hfit) h1
      simp only [Nat.add_zero] at hst
      have hf := hfc w rfl
      refine ⟨.slice (some ⟨g, 0, none⟩) (n + m) cap, w.setRow g (cur.toList.take (n * i.size) ++ news ++ cur.toList.drop (n * i.size + news.length)).toArray, ?_, ⟨hlen', .inr ⟨g, cap, _, rfl, hbg, setRow_heap w g cur _ e _ hg, hroom, hcm, ?_, ?_⟩⟩, ⟨rfl, rfl, rfl, by simp, fun k _ hk => setRow_other w g k _ (fun e => hk (by simp [Value.ownBlock, e]))⟩, .inl rfl⟩
      · rcases hdu with ⟨e', rfl⟩ | rfl <;> simp [Builtin.append_, run_underlying ht, run_underlying hu, sizeOf, typeInfo, hi, hlen, hroom, hf, Addr.add_lit, hst]
      · simp only [List.size_toArray, List.length_append, List.length_take, List.length_drop, Array.length_toList]
        omega
      · rw [htake, ← hlen']
        exact List.take_left
    · have holds : ∀ j u, xs[j]? = some u → w.cell? ((⟨g, 0, none⟩ : Addr).add j) = some u := hown.cells (g := g) rfl
      exact hgrow (some ⟨g, 0, none⟩) cap xs rfl rfl (fun W hW => run_firstCells_some W i.size n _ n cap xs hown.1 fun j u hu => by
        have := holds j u hu
        unfold World.cell? at this ⊢
        rw [hW]; exact this) (by omega)
/-- append, of so many noughts -/
theorem run_append_zeros {P : Program} (w : World) (base : Nat) (t u ty e : TypeId) (i : TypeInfo) (z : Value) (size bytes : Nat) (ht : P.underlying t = some (.slice e)) {ku : IntKind} (hu : P.underlying u = some (.int ku))
    (hi : P.info? e = some i) (hz : i.zero = some z) (hsize : i.size = size) (hby : i.bytes = bytes) (hzs : z.cells.size = size) (hsz : 0 < size)
    (v : Value) (n : Nat) (xs : List Value) (hown : w.ownsRow base e size v n xs) (kx : IntKind) (m : Nat) (news : List Value) (hl : news.length = m * size)
    (hfc : Builtin.zeroCells z.cells m = news.toArray) (h1 : ∀ u ∈ news, u.oneCell' = true)
    (h63 : n + m ≤ maxLen) (hbytes : (n + m) * bytes ≤ 140737488355328) (hbase : base ≤ w.heap.size) :
    ∃ v' w', (Builtin.append_ #[t, u] ty #[v, .int kx m]).run P w = .ok v' w' ∧ w'.ownsRow base e size v' (n + m) (xs ++ news) ∧ w.grownBy w' v.ownBlock ∧ (v'.ownBlock = v.ownBlock ∨ v'.ownBlock = some w.heap.size) := by
  subst hsize
  subst hby
  have hwr : IntKind.i64.wrap (m : Int) = m := wrap_i64 (by simp only [maxLen] at h63; omega)
  have hb2 : ¬ (281474976710656 < (m : Int) * (i.bytes : Int)) := by
    have h1 : m * i.bytes ≤ (n + m) * i.bytes := Nat.mul_le_mul_right _ (by omega)
    have h2 : ((m * i.bytes : Nat) : Int) = (m : Int) * (i.bytes : Int) := by simp
    omega
  have hm0 : ¬ ((m : Int) < 0) := by omega
  have hnil : m * i.size = 0 → news = [] := fun e => List.eq_nil_of_length_eq_zero (by omega)
  have hap : (if m * i.size = 0 then pure #[] else pure (Builtin.zeroCells z.cells m) : Sem (Array Value)) = pure news.toArray := by
    split
    · rename_i e; rw [hnil e]
    · rw [hfc]
  have hsmall : n + m ≤ 9223372036854775807 := by simp only [maxLen] at h63; omega
  have hlen' : (xs ++ news).length = (n + m) * i.size := by rw [List.length_append, hown.1, hl, Nat.add_mul]
  have hgrow : ∀ (b : Option Addr) (cap : Nat) (olds : List Value), v = .slice b n cap → xs = olds → (∀ W : World, W.heap = w.heap → (Builtin.firstCells i.size n v).run P W = .ok olds.toArray W) → cap < n + m →
      ∃ v' w', (Builtin.append_ #[t, u] ty #[v, .int kx m]).run P w = .ok v' w' ∧ w'.ownsRow base e i.size v' (n + m) (xs ++ news) ∧ w.grownBy w' v.ownBlock ∧ (v'.ownBlock = v.ownBlock ∨ v'.ownBlock = some w.heap.size) := by
    intro b cap olds hv hx hfo hlt
    subst hx
    have hge := grownCap_ge w (n + m) cap e
    have hcm : grownCap w (n + m) cap e ≤ maxLen := grownCap_le_maxLen w (n + m) cap e h63
    have hn : ¬ (n + m ≤ cap) := by omega
    have h63' : ¬ (9223372036854775807 < ((n : Int) + (m : Int))) := by omega
    have h48' : ¬ (281474976710656 < Builtin.nextslicecap (n + m) cap * i.bytes) := by
      have := growslice_fits hlt hbytes; omega
    have hfo' := hfo w.drew rfl
    refine ⟨.slice (some ⟨w.heap.size, 0, none⟩) (n + m) (grownCap w (n + m) cap e), w.drew.alloc (.cells (xs.toArray ++ news.toArray ++ Builtin.zeroCells z.cells (grownCap w (n + m) cap e - (n + m))) e), ?_, ⟨hlen', .inr ⟨w.heap.size, _, _, rfl, hbase, heap_alloc_new w.drew _, hge, hcm, ?_, ?_⟩⟩, ⟨rfl, rfl, rfl, by simp, fun k hk _ => Below.heap_alloc w.drew _ k hk⟩, .inr rfl⟩
    · subst hv
      simp [Builtin.append_, run_underlying ht, run_underlying hu, sizeOf, typeInfo, zeroValue, hi, hz, asInt, asIntOf, hwr, hb2, hm0, hfc, hn, h63', h48', Question.forced, hfo', newRow, grownCap]
      split
      · rename_i e0; rw [hnil e0]; simp
      · congr 2
        congr 1
        apply Array.ext'
        simp
    · simp only [Array.size_append, List.size_toArray, size_zeroCells, hzs, hown.1, hl, ← Nat.add_mul]
      congr 1
      omega
    · simp only [Array.toList_append, List.append_assoc]
      rw [← List.append_assoc, ← hlen']
      exact List.take_left
  rcases hown.2 with ⟨rfl, rfl⟩ | ⟨g, cap, cur, rfl, hbg, hg, hnc, hcm, hcs, htake⟩
  · have hx : xs = [] := List.eq_nil_of_length_eq_zero (by simpa using hown.1)
    subst hx
    by_cases hm : m = 0
    · subst hm
      have hn : news = [] := List.eq_nil_of_length_eq_zero (by simpa using hl)
      subst hn
      refine ⟨.slice none 0 0, w, ?_, World.ownsRow_nil w base e i.size, ⟨rfl, rfl, rfl, Nat.le_refl _, fun _ _ _ => rfl⟩, .inl rfl⟩
      simp [Builtin.append_, run_underlying ht, run_underlying hu, sizeOf, typeInfo, hi, asInt, asIntOf, show IntKind.i64.wrap 0 = 0 from rfl]
    · exact hgrow none 0 [] rfl rfl (fun W _ => by simp [Builtin.firstCells]) (by omega)
  · by_cases hroom : n + m ≤ cap
    · have hfit : n * i.size + news.length ≤ cur.size := by rw [hl, hcs, ← Nat.add_mul]; exact Nat.mul_le_mul_right _ hroom
      have hst := run_storeCells_at P g (n * i.size) e news 0 cur w hg (by simpa using hfit) h1
      simp only [Nat.add_zero] at hst
      refine ⟨.slice (some ⟨g, 0, none⟩) (n + m) cap, w.setRow g (cur.toList.take (n * i.size) ++ news ++ cur.toList.drop (n * i.size + news.length)).toArray, ?_, ⟨hlen', .inr ⟨g, cap, _, rfl, hbg, setRow_heap w g cur _ e _ hg, hroom, hcm, ?_, ?_⟩⟩, ⟨rfl, rfl, rfl, by simp, fun k _ hk => setRow_other w g k _ (fun e => hk (by simp [Value.ownBlock, e]))⟩, .inl rfl⟩
      · simp [Builtin.append_, run_underlying ht, run_underlying hu, sizeOf, typeInfo, zeroValue, hi, hz, asInt, asIntOf, hwr, hb2, hm0, hfc, hroom, Addr.add_lit, hst]
        intro e0
        have hnn := hnil e0
        subst hnn
        simp at hst
        rw [hst]
        simp
      · simp only [List.size_toArray, List.length_append, List.length_take, List.length_drop, Array.length_toList]
        omega
      · rw [htake, ← hlen']
        exact List.take_left
    · have holds : ∀ j u, xs[j]? = some u → w.cell? ((⟨g, 0, none⟩ : Addr).add j) = some u := hown.cells (g := g) rfl
      exact hgrow (some ⟨g, 0, none⟩) cap xs rfl rfl (fun W hW => run_firstCells_some W i.size n _ n cap xs hown.1 fun j u hu => by
        have := holds j u hu
        unfold World.cell? at this ⊢
        rw [hW]; exact this) (by omega)
end Go.Proofs.YtjebfbkigkjboaaGreatDoor.Sy

/- The calculus, fifth part: the operations that only read. -/
namespace Go.Proofs.YtjebfbkigkjboaaGreatDoor.Sy
open Go.RowKit Kit

abbrev Res := SV × Chg
/-- what an operation's outcome owes -/
def Owes (P : Program) (w0 : Base) (M0 : Snap) (σ : St) (K : Res → Prop) (tm : Array Value) (w : World) (s : Sem Value) : Prop :=
  ∃ x ch v w', K (x, ch) ∧ s.run P w = .ok v w' ∧ ∃ M' β', Rel w0 M0 M' β' (σ.app ch) tm w' ∧ SVR M' β' x v

section
variable {P : Program} {tbl : Tbl} {w0 : Base} {w : World} {M0 M : Snap} {β : Plc} {σ : St} {a : Act} {K : Res → Prop}
theorem Owes.here (h : Rel w0 M0 M β σ a.tmps w) {s : Sem Value} {x : SV} {v : Value} (hk : K (x, none)) (hr : s.run P w = .ok v w) (hx : SVR M β x v) : Owes P w0 M0 σ K a.tmps w s :=
  ⟨x, none, v, w, hk, hr, M, β, h, hx⟩

def doPick (σ : St) (c x y : Operand) : Tr Res :=
  match ev σ c with
  | .e (.c (.kb b)) => match b with | true => .ret (ev σ x, none) | false => .ret (ev σ y, none)
  | .e (.c (.d (.v (.bool b)))) => .ite b (.ret (ev σ x, none)) (.ret (ev σ y, none))
  | _ => .fail
theorem doPick_ok (h : Rel w0 M0 M β σ a.tmps w) {c x y : Operand} (hk : (doPick σ c x y).sat K) : Owes P w0 M0 σ K a.tmps w (do pure (if ← asBool (a.eval c) then a.eval x else a.eval y)) := by
  have hc := ev_ok h c
  unfold doPick at hk
  split at hk
  · rename_i b hb
    rw [hb] at hc
    have hv : a.eval c = .bool b := hc
    cases b with
    | true => exact Owes.here h hk (by simp [hv, asBool]) (ev_ok h x)
    | false => exact Owes.here h hk (by simp [hv, asBool]) (ev_ok h y)
  · rename_i b hb
    obtain ⟨hv, _⟩ := hc.val (u := .bool b) (by rw [hb]; rfl)
    cases b with
    | true => exact Owes.here h (hk.1 rfl) (by simp [hv, asBool]) (ev_ok h x)
    | false => exact Owes.here h (hk.2 rfl) (by simp [hv, asBool]) (ev_ok h y)
  · exact hk.elim

def doBin (tbl : Tbl) (σ : St) (op : BinOp) (t : TypeId) (x y : Operand) : Tr Res :=
  match (ev σ x).val, (ev σ y).val with
  | some u, some v =>
    match u, get tbl t with
    | .bool _, some l => match l.desc with | .bool => (binS op u v).bind fun r => .ret (SV.of r, none) | _ => .fail
    | .bool _, none => .fail
    | _, _ => (binS op u v).bind fun r => .ret (SV.of r, none)
  | _, _ => .fail
theorem doBin_ok (ht : TblOk P tbl) (h : Rel w0 M0 M β σ a.tmps w) {op : BinOp} {t : TypeId} {x y : Operand} (hk : (doBin tbl σ op t x y).sat K) :
    Owes P w0 M0 σ K a.tmps w (do eqGuard op t x y (a.eval x) (a.eval y); binOp op t (a.eval x) (a.eval y)) := by
  unfold doBin at hk
  split at hk
  · rename_i u v hu hv
    obtain ⟨e1, s1⟩ := (ev_ok h x).val hu
    obtain ⟨e2, s2⟩ := (ev_ok h y).val hv
    have key : ∀ (hb : ∀ z, u = .bool z → ∃ l, get tbl t = some l ∧ l.desc = .bool), ((binS op u v).bind fun r => (.ret (SV.of r, none) : Tr Res)).sat K →
        Owes P w0 M0 σ K a.tmps w (do eqGuard op t x y (a.eval x) (a.eval y); binOp op t (a.eval x) (a.eval y)) := fun hb hk => by
      obtain ⟨r, hr, hs, hrun⟩ := binS_ok (P := P) (t := t) (x := x) (y := y) ht s1 s2 hb (Tr.sat_bind hk) w
      rw [e1, e2]
      exact Owes.here h hr hrun (SVR.of hs)
    split at hk
    · rename_i l hl
      split at hk
      · rename_i hd
        exact key (fun z _ => ⟨l, hl, hd⟩) hk
      · exact hk.elim
    · exact hk.elim
    · rename_i h1 h2
      exact key (fun z hz => by
        subst hz
        cases hl : get tbl t with
        | none => exact (h2 z rfl hl).elim
        | some l => exact (h1 z l rfl hl).elim) hk
  · exact hk.elim

def doUn (σ : St) (op : UnOp) (x : Operand) : Tr Res :=
  match (ev σ x).val with
  | some u => (unS op u).bind fun r => .ret (SV.of r, none)
  | _ => .fail
theorem doUn_ok (h : Rel w0 M0 M β σ a.tmps w) {op : UnOp} {x : Operand} (hk : (doUn σ op x).sat K) : Owes P w0 M0 σ K a.tmps w (Op.unary op (a.eval x)) := by
  unfold doUn at hk
  split at hk
  · rename_i u hu
    obtain ⟨e1, s1⟩ := (ev_ok h x).val hu
    obtain ⟨r, hr, hs, hrun⟩ := unS_ok (P := P) (Tr.sat_bind hk) w
    rw [e1]
    exact Owes.here h hr hrun (SVR.of hs)
  · exact hk.elim

def rowLen (σ : St) (i : Nat) : Tr Nat :=
  match get σ.objs i with
  | some (.row _ _ l) => .ret l.length
  | some (.vec _ _ l) => .ret l.length
  | _ => .fail
def mapLen (σ : St) (i : Nat) : Tr Nat :=
  match get σ.objs i with
  | some (.map _ _ _ _ l) => .ret l.length
  | _ => .fail
/-- how long a text or a slice is -/
def lenSV (σ : St) : SV → Tr Nat
  | .e (.c (.d (.v (.string s)))) => .ret s.size
  | .e (.c (.d (.sl _ es))) => .ret es.length
  | .e (.c .nil) => .ret 0
  | .e (.c (.row i)) => rowLen σ i
  | .e (.c (.rv _ _ _ n)) => .ret n
  | _ => .fail
def doLen (tbl : Tbl) (σ : St) (t : TypeId) (x : Operand) : Tr Res :=
  match get tbl t with
  | some l =>
    match l.desc, ev σ x with
    | .string, .e (.c (.d (.v (.string s)))) => .ret (SV.of (.int .i64 s.size), none)
    | .slice _, .e (.c (.d (.sl _ es))) => .ret (SV.of (.int .i64 es.length), none)
    | .slice _, .e (.c .nil) => .ret (SV.of (.int .i64 0), none)
    | .slice _, .e (.c (.row i)) => (rowLen σ i).bind fun n => .ret (SV.of (.int .i64 n), none)
    | .slice _, .e (.c (.rv _ _ _ n)) => .ret (SV.of (.int .i64 n), none)
    | .map _ _, .e (.c .nilm) => .ret (SV.of (.int .i64 0), none)
    | .map _ _, .e (.c (.mp i)) => (mapLen σ i).bind fun n => .ret (SV.of (.int .i64 n), none)
    | _, _ => .fail
  | none => .fail

theorem row_at (h : Rel w0 M0 M β σ a.tmps w) {i : Nat} {v : Value} (hb : β i = some (.inr v)) {t : Ty} {T : TypeId} {l : List t.El} (ho : get σ.objs i = some (.row t T l)) :
    ∃ xs, w.ownsRow 0 T t.sz v l.length xs ∧ Flat M t.sz (rows t l) xs := by
  obtain ⟨p, hp, hr⟩ := h.objs i _ ho
  rw [hb] at hp; cases hp
  exact hr
theorem vec_at (h : Rel w0 M0 M β σ a.tmps w) {i : Nat} {v : Value} (hb : β i = some (.inr v)) {T r : Nat} {l : List CV} (ho : get σ.objs i = some (.vec T r l)) :
    ∃ xs, w.ownsRow 0 T 1 v l.length xs ∧ CVs M β l xs ∧ r ≤ capOf v := by
  obtain ⟨p, hp, hr⟩ := h.objs i _ ho
  rw [hb] at hp; cases hp
  exact hr
theorem row_form {base : Nat} {T : TypeId} {sz : Nat} {v : Value} {n : Nat} {xs : List Value} (h : w.ownsRow base T sz v n xs) : ∃ A c, v = .slice A n c ∧ n ≤ c ∧ c ≤ maxLen := by
  rcases h.2 with ⟨rfl, rfl⟩ | ⟨g, cap, cur, rfl, _, _, h1, h2, _⟩
  · exact ⟨none, 0, rfl, Nat.le_refl _, by decide⟩
  · exact ⟨_, cap, rfl, h1, h2⟩
theorem run_len_slice {t : TypeId} {e : TypeId} (ht : P.underlying t = some (.slice e)) (ty : TypeId) (A : Option Addr) (n c : Nat) : (Builtin.len_ #[t] ty #[.slice A n c]).run P w = .ok (goInt n) w := by
  simp [Builtin.len_, run_underlying ht]
theorem run_len_string {t : TypeId} (ht : P.underlying t = some .string) (ty : TypeId) (s : ByteArray) : (Builtin.len_ #[t] ty #[.string s]).run P w = .ok (goInt s.size) w := by
  simp [Builtin.len_, run_underlying ht]

theorem rowLen_ok (h : Rel w0 M0 M β σ a.tmps w) {i : Nat} {v : Value} (hb : β i = some (.inr v)) {K : Nat → Prop} (hk : (rowLen σ i).sat K) : ∃ n A c, K n ∧ v = .slice A n c := by
  unfold rowLen at hk
  split at hk
  · rename_i t T l ho
    obtain ⟨xs, ho, _⟩ := row_at h hb ho
    obtain ⟨A, c, e, _⟩ := row_form ho
    exact ⟨_, A, c, hk, e⟩
  · rename_i T r l ho
    obtain ⟨xs, ho, _⟩ := vec_at h hb ho
    obtain ⟨A, c, e, _⟩ := row_form ho
    exact ⟨_, A, c, hk, e⟩
  · exact hk.elim
theorem Ents.length {ka va : Bool} {kt vt : Ty} {l : List (kt.El × vt.El)} {es : List MapEntry} (h : Ents M ka va kt vt l es) : es.length = l.length := by
  induction h with
  | nil => rfl
  | cons _ _ _ ih => simp [ih]
theorem map_at (h : Rel w0 M0 M β σ a.tmps w) {i b : Nat} (hb : β i = some (.inl b)) {ka va : Bool} {kt vt : Ty} {l : List (kt.El × vt.El)} (ho : get σ.objs i = some (.map ka va kt vt l)) :
    ∃ es c, w.heap[b]? = some (.map es c) ∧ Ents M ka va kt vt l es.toList := by
  obtain ⟨p, hp, hr⟩ := h.objs i _ ho
  rw [hb] at hp; cases hp
  exact hr
theorem getObj_map {b : Nat} {es : Array MapEntry} {c : Nat} (hw : w.heap[b]? = some (.map es c)) : (getObj b).run P w = .ok (.map es c) w := by simp [getObj, Sem.run, hw]
theorem setObj_map {b : Nat} {es : Array MapEntry} {c : Nat} (hw : w.heap[b]? = some (.map es c)) (o : Obj) : (setObj b o).run P w = .ok () { w with heap := w.heap.setIfInBounds b o } := by simp [setObj, Sem.run, hw]
theorem run_len_map {t k e : TypeId} (ht : P.underlying t = some (.map k e)) (ty : TypeId) {b : Nat} {es : Array MapEntry} {c : Nat} (hw : w.heap[b]? = some (.map es c)) : (Builtin.len_ #[t] ty #[.map (some b)]).run P w = .ok (goInt es.size) w := by
  simp [Builtin.len_, run_underlying ht, getObj_map hw]
theorem run_len_nilm {t k e : TypeId} (ht : P.underlying t = some (.map k e)) (ty : TypeId) : (Builtin.len_ #[t] ty #[.map none]).run P w = .ok (goInt 0) w := by
  simp [Builtin.len_, run_underlying ht]

theorem doLen_ok (ht : TblOk P tbl) (h : Rel w0 M0 M β σ a.tmps w) {t ty : TypeId} {x : Operand} (hk : (doLen tbl σ t x).sat K) : Owes P w0 M0 σ K a.tmps w (Builtin.len_ #[t] ty #[a.eval x]) := by
  unfold doLen at hk
  split at hk
  · rename_i l hl
    have hu := (ht t l hl).2
    have hx := ev_ok h x
    split at hk
    · rename_i s hd he
      rw [he] at hx; rw [hd] at hu
      generalize a.eval x = v at hx
      cases (show DR M (.v (.string s)) v from hx)
      exact Owes.here h hk (run_len_string hu ty s) (SVR.of rfl)
    · rename_i e t' l' hd he
      rw [he] at hx; rw [hd] at hu
      generalize a.eval x = v at hx
      cases (show DR M (.sl t' l') v from hx)
      exact Owes.here h hk (run_len_slice hu ty _ _ _) (SVR.of rfl)
    · rename_i e hd he
      rw [he] at hx; rw [hd] at hu
      rw [show a.eval x = _ from hx]
      exact Owes.here h hk (run_len_slice hu ty _ _ _) (SVR.of rfl)
    · rename_i e i hd he
      rw [he] at hx; rw [hd] at hu
      obtain ⟨n, A, c, hk, hv⟩ := rowLen_ok h (show CVR M β (.row i) (a.eval x) from hx).1 (Tr.sat_bind hk)
      rw [hv]
      exact Owes.here h hk (run_len_slice hu ty _ _ _) (SVR.of rfl)
    · rename_i e i sz off n hd he
      rw [he] at hx; rw [hd] at hu
      obtain ⟨g, m, cap, c, _, hv, _⟩ := (show CVR M β (.rv i sz off n) (a.eval x) from hx)
      rw [hv]
      exact Owes.here h hk (run_len_slice hu ty _ _ _) (SVR.of rfl)
    · rename_i e e' hd he
      rw [he] at hx; rw [hd] at hu
      rw [show a.eval x = _ from hx]
      exact Owes.here h hk (run_len_nilm hu ty) (SVR.of rfl)
    · rename_i e e' i hd he
      rw [he] at hx; rw [hd] at hu
      obtain ⟨b, hb, hv⟩ := (show CVR M β (.mp i) (a.eval x) from hx)
      have hk := Tr.sat_bind hk
      unfold mapLen at hk
      split at hk
      · rename_i ho
        obtain ⟨es, c, hw, hes⟩ := map_at h hb ho
        rw [hv]
        refine Owes.here h hk (run_len_map hu ty hw) ?_
        have := hes.length
        simp only [Array.length_toList] at this
        rw [this]
        exact SVR.of rfl
      · exact hk.elim
    · exact hk.elim
  · exact hk.elim

def isAggD : TypeDesc → Bool
  | .struct _ | .array _ _ => true
  | _ => false
/-- the value that stands in cells, by its type -/
def takeCells (l : Lay) (cs : List CV) : Tr SV :=
  if isAggD l.desc then Tr.need (decide (l.size ≤ cs.length)) (.ret (.e (.agg (cs.take l.size))))
  else match cs with
    | c :: _ => .ret (.e (.c c))
    | [] => .fail
theorem run_loadVar_agg {t : TypeId} {d : TypeDesc} (hu : P.underlying t = some d) (hd : isAggD d = true) {n : Nat} (hs : (P.info? t).map (·.size) = some n) (ad : Addr) (cs : List Value) (hl : cs.length = n)
    (hc : ∀ j v, cs[j]? = some v → w.cell? (ad.add j) = some v) : (loadVar t ad).run P w = .ok (.agg cs.toArray) w := by
  have h := run_loadCells_list (P := P) w ad cs hc
  rw [hl] at h
  cases hi : P.info? t with
  | none => simp [hi] at hs
  | some i =>
    simp [hi] at hs
    cases d <;> simp [isAggD] at hd <;> simp [loadVar, isAgg, run_underlying hu, sizeOf, typeInfo, hi, hs, h]
theorem run_loadVar_one {t : TypeId} {d : TypeDesc} (hu : P.underlying t = some d) (hd : isAggD d = false) (ad : Addr) (v : Value) (hc : w.cell? ad = some v) : (loadVar t ad).run P w = .ok v w := by
  cases d <;> simp [isAggD] at hd <;> simp [loadVar, isAgg, run_underlying hu, hc]

theorem CVs.length {cs : List CV} {us : List Value} (h : CVs M β cs us) : us.length = cs.length := by
  induction h with
  | nil => rfl
  | cons _ _ _ ih => simp [ih]
theorem CVs.take {cs : List CV} {us : List Value} (h : CVs M β cs us) (n : Nat) : CVs M β (cs.take n) (us.take n) := by
  induction h generalizing n with
  | nil => simp; exact .nil
  | cons h1 h2 _ ih => cases n with
    | zero => exact .nil
    | succ n => simpa using CVs.cons h1 h2 (ih n)
theorem takeCells_ok (ht : TblOk P tbl) {t : TypeId} {l : Lay} (hl : get tbl t = some l) {cs : List CV} {K : SV → Prop} (hk : (takeCells l cs).sat K) {ad : Addr} {us : List Value}
    (hc : CVs M β cs us) (hm : ∀ j u, us[j]? = some u → w.cell? (ad.add j) = some u) : ∃ x v, K x ∧ (loadVar t ad).run P w = .ok v w ∧ SVR M β x v := by
  obtain ⟨hi, hu⟩ := ht t l hl
  unfold takeCells at hk
  split at hk
  · rename_i hd
    obtain ⟨hsz, hk⟩ := Tr.sat_need hk
    simp only [decide_eq_true_eq] at hsz
    have hlen : us.length = cs.length := hc.length
    refine ⟨_, _, hk, run_loadVar_agg hu hd (n := l.size) ?_ ad (us.take l.size) (by rw [List.length_take]; omega) (fun j v hv => ?_), ⟨_, rfl, by simpa using hc.take l.size⟩⟩
    · cases e : P.info? t with
      | none => simp [e] at hi
      | some i => simp [e] at hi; simp [hi]
    · rw [List.getElem?_take] at hv
      split at hv
      · exact hm j v hv
      · cases hv
  · rename_i hd
    cases hc with
    | nil => exact hk.elim
    | @cons x u xs us h1 h2 h3 =>
      have := hm 0 u rfl
      rw [add_zero'] at this
      exact ⟨_, u, hk, run_loadVar_one hu (by simpa using hd) ad u this, h1⟩

/-- so many elements of one cell each, from element k on, as cells -/
def cellsAt (t : Ty) (es : List t.El) (k : Nat) : Nat → List CV
  | 0 => []
  | n + 1 => .d ((split t (es.getD k t.dflt)).headD (.v (.bool false))) :: cellsAt t es (k + 1) n
theorem cellsAt_len (t : Ty) (es : List t.El) : ∀ (n k : Nat), (cellsAt t es k n).length = n
  | 0, _ => rfl
  | n + 1, k => by simp [cellsAt, cellsAt_len t es n (k + 1)]
theorem cellsAt_ok {M : Snap} {β : Plc} {t : Ty} {es : List t.El} {xs : List Value} (h1 : t.sz = 1) (hf : Flat M 1 (rows t es) xs) : ∀ (n k : Nat), k + n ≤ es.length → CVs M β (cellsAt t es k n) ((xs.drop k).take n)
  | 0, _, _ => by simp [cellsAt]; exact .nil
  | n + 1, k, h => by
    have hk : k < es.length := by omega
    have hc := hf.at_ (rows_at t hk)
    have hxl := hf.length
    rw [rows_len, Nat.mul_one] at hxl
    have hkx : k < xs.length := by omega
    rw [Nat.mul_one, List.drop_eq_getElem_cons hkx] at hc
    have hl := split_len t (es.getD k t.dflt)
    rw [h1] at hl
    rw [List.drop_eq_getElem_cons hkx]
    simp only [List.take_succ_cons, List.take_zero] at hc ⊢
    match e : split t (es.getD k t.dflt), hl with
    | [d], _ =>
      rw [e] at hc
      cases hc with
      | cons h2 _ =>
        simp only [cellsAt, e, List.headD_cons]
        exact .cons h2 h2.one (cellsAt_ok h1 hf n (k + 1) (by omega))
def doLoad (tbl : Tbl) (σ : St) (t : TypeId) (x : Operand) : Tr Res :=
  match get tbl t with
  | some l =>
    match ev σ x with
    | .e (.c (.dp cs)) => (takeCells l (cs.map .d)).bind fun r => .ret (r, none)
    | .e (.c (.np i off)) =>
      match get σ.objs i with
      | some (.cells _ cs) => (takeCells l (cs.drop off)).bind fun r => .ret (r, none)
      | _ => .fail
    | .e (.c (.rp i sz k j)) =>
      match get σ.objs i with
      | some (.row t _ es) => if t.sz = 1 ∧ sz = 1 ∧ j = 0 ∧ l.size ≠ 1 ∧ isAggD l.desc = true then Tr.need (decide (k + l.size ≤ es.length)) (.ret (.e (.agg (cellsAt t es k l.size)), none)) else if sz = t.sz then Tr.need (decide (k < es.length)) ((takeCells l (((split t (es.getD k t.dflt)).drop j).map .d)).bind fun r => .ret (r, none)) else .fail
      | some (.vec _ _ es) => if sz = 1 ∧ j = 0 then (match es[k]? with | some c => (takeCells l [c]).bind fun r => .ret (r, none) | none => .fail) else .fail
      | _ => .fail
    | _ => .fail
  | none => .fail
theorem CVs.at__ {l : List CV} {vs : List Value} (h : CVs M β l vs) : ∀ {j : Nat} {x : CV}, l[j]? = some x → ∃ u, vs[j]? = some u ∧ CVR M β x u ∧ u.oneCell' = true := by
  induction h with
  | nil => intro j x hx; simp at hx
  | cons h1 h2 _ ih =>
    intro j x hx
    cases j with
    | zero => simp at hx; subst hx; exact ⟨_, rfl, h1, h2⟩
    | succ j => exact ih (j := j) (by simpa using hx)
theorem CVs.ofCells {l : List D} {us : List Value} (h : Cells M l us) : CVs M β (l.map .d) us := by
  induction h with
  | nil => exact .nil
  | cons h1 _ ih => exact .cons h1 h1.one ih
theorem CVs.drop {cs : List CV} {us : List Value} (h : CVs M β cs us) (n : Nat) : CVs M β (cs.drop n) (us.drop n) := by
  induction h generalizing n with
  | nil => simp; exact .nil
  | cons h1 h2 h3 ih => cases n with
    | zero => exact .cons h1 h2 h3
    | succ n => simpa using ih n
theorem lit_add (g i j : Nat) : (⟨g, i, none⟩ : Addr).add j = ⟨g, i + j, none⟩ := by unfold Addr.add; split <;> simp_all
theorem doLoad_run (ht : TblOk P tbl) (h : Rel w0 M0 M β σ a.tmps w) {t : TypeId} {x : Operand} (hk : (doLoad tbl σ t x).sat K) : ∃ y v ad, K (y, none) ∧ a.eval x = .pointer (some ad) ∧ (loadVar t ad).run P w = .ok v w ∧ SVR M β y v := by
  unfold doLoad at hk
  split at hk
  · rename_i l hl
    have hx := ev_ok h x
    have fin : ∀ {cs : List CV} {ad : Addr} {us : List Value}, ((takeCells l cs).bind fun r => (.ret (r, none) : Tr Res)).sat K → a.eval x = .pointer (some ad) → CVs M β cs us → (∀ j u, us[j]? = some u → w.cell? (ad.add j) = some u) →
        ∃ y v ad, K (y, none) ∧ a.eval x = .pointer (some ad) ∧ (loadVar t ad).run P w = .ok v w ∧ SVR M β y v := fun hk e hc hm => by
      obtain ⟨r, v, hr, hrun, hv⟩ := takeCells_ok ht hl (Tr.sat_bind hk) hc hm
      exact ⟨r, v, _, hr, e, hrun, hv⟩
    have fin' : ∀ {cs : List CV} {ad : Addr} {us : List Value}, K (.e (.agg cs), none) → a.eval x = .pointer (some ad) → isAggD l.desc = true → CVs M β cs us → cs.length = l.size → (∀ j u, us[j]? = some u → w.cell? (ad.add j) = some u) →
        ∃ y v ad, K (y, none) ∧ a.eval x = .pointer (some ad) ∧ (loadVar t ad).run P w = .ok v w ∧ SVR M β y v := fun {cs ad us} hk e hag hc hlen hm => by
      obtain ⟨hi, hu⟩ := ht t l hl
      refine ⟨_, .agg us.toArray, ad, hk, e, run_loadVar_agg hu hag (n := l.size) ?_ ad us (by rw [hc.length, hlen]) hm, us.toArray, rfl, by simpa using hc⟩
      cases e : P.info? t with
      | none => simp [e] at hi
      | some i => simp [e] at hi; simp [hi]
    split at hk
    · rename_i cs he
      rw [he] at hx
      obtain ⟨ad, us, e, hc, hm⟩ := (show CVR M β (.dp cs) _ from hx)
      exact fin hk e (.ofCells hc) fun j u hu => Snap.cell_world h.snap (hm j u hu)
    · rename_i i off he
      rw [he] at hx
      obtain ⟨b, hb, e⟩ := (show CVR M β (.np i off) _ from hx)
      split at hk
      · rename_i T cs ho
        obtain ⟨p, hp, hr⟩ := h.objs i _ ho
        rw [hb] at hp; cases hp
        obtain ⟨vs, hw, hc⟩ := hr
        refine fin hk e (hc.drop off) fun j u hu => ?_
        rw [lit_add, cell_of_row w b _ vs T (0, 0) hw]
        rw [List.getElem?_drop] at hu
        simpa using hu
      · exact hk.elim
    · rename_i i sz k j he
      rw [he] at hx
      obtain ⟨g, m, cap, hb, e⟩ := (show CVR M β (.rp i sz k j) _ from hx)
      split at hk
      · rename_i t T l ho
        split at hk
        · rename_i hc
          obtain ⟨h1, rfl, rfl, hne, hag⟩ := hc
          obtain ⟨hle, hk⟩ := Tr.sat_need hk
          simp only [decide_eq_true_eq] at hle
          obtain ⟨xs, hown, hf⟩ := row_at h hb ho
          rw [h1] at hf hown
          have hcs := cellsAt_ok (M := M) (β := β) h1 hf _ k hle
          refine fin' hk e hag hcs (by rw [cellsAt_len]) fun j' u hu => ?_
          rw [lit_add]
          have hcell := hown.cells (g := g) (by rcases hown.2 with ⟨h1, _⟩ | ⟨g', c', cur, h1, _⟩ <;> cases h1; rfl) (k + j') u ?_
          · rw [lit_add] at hcell; simpa using hcell
          · rw [List.getElem?_take] at hu
            split at hu
            · rwa [List.getElem?_drop] at hu
            · cases hu
        split at hk
        · rename_i hsz
          subst hsz
          obtain ⟨hlt, hk⟩ := Tr.sat_need hk
          simp only [decide_eq_true_eq] at hlt
          obtain ⟨xs, hown, hf⟩ := row_at h hb ho
          have hce := (hf.at_ (rows_at t hlt)).drop j
          refine fin hk e (.ofCells hce) fun j' u hu => ?_
          rw [lit_add]
          have hcell := hown.cells (g := g) (by rcases hown.2 with ⟨h1, _⟩ | ⟨g', c', cur, h1, _⟩ <;> cases h1; rfl) (k * t.sz + j + j') u ?_
          · rwa [lit_add, Nat.zero_add] at hcell
          · rw [List.getElem?_drop, List.getElem?_take] at hu
            split at hu
            · rw [List.getElem?_drop] at hu
              rw [← hu]; congr 1
              omega
            · cases hu
        · exact hk.elim
      · rename_i T r es ho
        split at hk
        · rename_i hsz
          obtain ⟨rfl, rfl⟩ := hsz
          split at hk
          · rename_i c hc
            obtain ⟨xs, hown, hcs, _⟩ := vec_at h hb ho
            obtain ⟨u, hu, hr, h1⟩ := hcs.at__ hc
            refine fin hk e (us := [u]) (.cons hr h1 .nil) fun j' u' hu' => ?_
            cases j' with
            | zero =>
              simp at hu'; subst hu'
              have hcell := hown.cells (g := g) (by rcases hown.2 with ⟨h1, _⟩ | ⟨g', c', cur, h1, _⟩ <;> cases h1; rfl) k _ hu
              rw [lit_add] at hcell ⊢
              simpa using hcell
            | succ j' => simp at hu'
          · exact hk.elim
        · exact hk.elim
      · exact hk.elim
    · exact hk.elim
  · exact hk.elim
theorem doLoad_ok (ht : TblOk P tbl) (h : Rel w0 M0 M β σ a.tmps w) {t : TypeId} {x : Operand} (hk : (doLoad tbl σ t x).sat K) : Owes P w0 M0 σ K a.tmps w (Instr.loadAt t (a.eval x)) := by
  obtain ⟨y, v, ad, hk, e, hrun, hv⟩ := doLoad_run ht h hk
  exact Owes.here h hk (by rw [e]; simp [Instr.loadAt, Instr.sureAddr, hrun]) hv
end
end Go.Proofs.YtjebfbkigkjboaaGreatDoor.Sy

/- The calculus, sixth part: addresses, parts of slices and texts, conversions. -/
namespace Go.Proofs.YtjebfbkigkjboaaGreatDoor.Sy
open Go.RowKit Kit

section
variable {P : Program} {tbl : Tbl} {w0 : Base} {w : World} {M0 M : Snap} {β : Plc} {σ : St} {a : Act} {K : Res → Prop}

def fieldOf (tbl : Tbl) (t f : Nat) : Option (Nat × Lay) :=
  match get tbl t with
  | some l =>
    match l.desc with
    | .struct fs =>
      match fs[f]? with
      | some fd =>
        match get tbl fd.type with
        | some lf => if lf.size = 0 then none else some (fd.offset, lf)
        | none => none
      | none => none
    | _ => none
  | none => none
theorem fieldOf_ok (ht : TblOk P tbl) {t f off : Nat} {lf : Lay} (h : fieldOf tbl t f = some (off, lf)) :
    ∃ fs fd, P.underlying t = some (.struct fs) ∧ fs[f]? = some fd ∧ fd.offset = off ∧ get tbl fd.type = some lf ∧ lf.size ≠ 0 ∧ ∀ W : World, (sizeOf fd.type).run P W = .ok lf.size W := by
  unfold fieldOf at h
  split at h
  · rename_i l hl
    split at h
    · rename_i fs hd
      split at h
      · rename_i fd hf
        split at h
        · rename_i lf' hlf
          split at h
          · cases h
          · rename_i hz
            cases h
            have hu := (ht t l hl).2
            rw [hd] at hu
            have hi := (ht _ _ hlf).1
            refine ⟨fs, fd, hu, hf, rfl, hlf, hz, fun W => ?_⟩
            cases e : P.info? fd.type with
            | none => simp [e] at hi
            | some i => simp [e] at hi; simp [sizeOf, typeInfo, e, hi]
        · cases h
      · cases h
    · cases h
  · cases h

theorem sizeOf_ok (ht : TblOk P tbl) {t : Nat} {l : Lay} (hl : get tbl t = some l) (W : World) : (sizeOf t).run P W = .ok l.size W := by
  have hi := (ht _ _ hl).1
  cases e : P.info? t with
  | none => simp [e] at hi
  | some i => simp [e] at hi; simp [sizeOf, typeInfo, e, hi]

def doField (tbl : Tbl) (σ : St) (t : Nat) (x : Operand) (f : Nat) : Tr Res :=
  match fieldOf tbl t f with
  | some (off, _) =>
    match ev σ x with
    | .e (.c (.dp cs)) => .ret (.e (.c (.dp (cs.drop off))), none)
    | .e (.c (.np i o)) => .ret (.e (.c (.np i (o + off))), none)
    | .e (.c (.rp i sz k o)) => .ret (.e (.c (.rp i sz k (o + off))), none)
    | _ => .fail
  | none => .fail
theorem dp_drop {cs : List D} {v : Value} (h : CVR M β (.dp cs) v) (n : Nat) : ∃ ad, v = .pointer (some ad) ∧ CVR M β (.dp (cs.drop n)) (.pointer (some (ad.add n))) := by
  obtain ⟨ad, us, e, hc, hm⟩ := h
  exact ⟨ad, e, _, _, rfl, hc.drop n, fun j u hu => by rw [add_add]; exact hm _ u (by rw [← hu, List.getElem?_drop])⟩
theorem doField_ok (ht : TblOk P tbl) (h : Rel w0 M0 M β σ a.tmps w) {t f : Nat} {x : Operand} (hk : (doField tbl σ t x f).sat K) : Owes P w0 M0 σ K a.tmps w (Instr.fieldAt t (a.eval x) f) := by
  unfold doField at hk
  split at hk
  · rename_i off lf hf
    obtain ⟨fs, fd, hu, hfd, rfl, _, hz, hsz⟩ := fieldOf_ok ht hf
    have hrun : ∀ ad : Addr, (Instr.fieldAt t (.pointer (some ad)) f).run P w = .ok (.pointer (some (ad.add fd.offset))) w := fun ad => by
      simp [Instr.fieldAt, run_underlying hu, hfd, Instr.sureAddr, fieldPlace, hsz, hz]
    have hx := ev_ok h x
    split at hk
    · rename_i cs he
      rw [he] at hx
      obtain ⟨ad, e, hr⟩ := dp_drop (show CVR M β (.dp cs) _ from hx) fd.offset
      rw [e]
      exact Owes.here h hk (hrun ad) hr
    · rename_i i o he
      rw [he] at hx
      obtain ⟨b, hb, e⟩ := (show CVR M β (.np i o) _ from hx)
      rw [e]
      exact Owes.here h hk (hrun _) ⟨b, hb, by rw [lit_add]⟩
    · rename_i i sz k o he
      rw [he] at hx
      obtain ⟨g, m, cap, hb, e⟩ := (show CVR M β (.rp i sz k o) _ from hx)
      rw [e]
      exact Owes.here h hk (hrun _) ⟨g, m, cap, hb, by rw [lit_add, Nat.add_assoc]⟩
    · exact hk.elim
  · exact hk.elim

/-- an index that is known -/
def SV.int (x : SV) : Option Int :=
  match x.val with
  | some (.int _ n) => some n
  | _ => none
theorem SVR.int {x : SV} {v : Value} (h : SVR M β x v) {n : Int} (hx : x.int = some n) : ∃ k, v = .int k n := by
  unfold SV.int at hx
  split at hx
  · rename_i k m e
    cases hx
    exact ⟨k, (h.val e).1⟩
  · cases hx

def inR (n : Int) (m : Nat) : Bool := decide (0 ≤ n ∧ n < m)

def doIndexAddr (tbl : Tbl) (σ : St) (t : Nat) (x ix : Operand) : Tr Res :=
  match get tbl t, (ev σ ix).int with
  | some l, some n =>
    match l.desc with
    | .slice e =>
      match get tbl e, ev σ x with
      | some le, .e (.c (.d (.sl ty es))) => if ty.sz = le.size then Tr.need (inR n es.length) (.ret (.e (.c (.dp (split ty (es.getD n.toNat ty.dflt)))), none)) else .fail
      | some le, .e (.c (.row i)) =>
        match get σ.objs i with
        | some (.row ty _ es) => if ty.sz = le.size then Tr.need (inR n es.length) (.ret (.e (.c (.rp i ty.sz n.toNat 0)), none)) else .fail
        | some (.vec _ _ es) => if 1 = le.size then Tr.need (inR n es.length) (.ret (.e (.c (.rp i 1 n.toNat 0)), none)) else .fail
        | _ => .fail
      | some le, .e (.c (.rv i sz o m)) => if sz = le.size then Tr.need (inR n m) (.ret (.e (.c (.rp i sz (o + n.toNat) 0)), none)) else .fail
      | _, _ => .fail
    | .array len e =>
      match get tbl e, ev σ x with
      | some le, .e (.c (.np i o)) => Tr.need (inR n len) (.ret (.e (.c (.np i (o + n.toNat * le.size))), none))
      | some le, .e (.c (.dp cs)) => Tr.need (inR n len) (.ret (.e (.c (.dp (cs.drop (n.toNat * le.size)))), none))
      | some le, .e (.c (.rp i 1 k 0)) => Tr.need (inR n len) (.ret (.e (.c (.rp i 1 (k + n.toNat * le.size) 0)), none))
      | _, _ => .fail
    | _ => .fail
  | _, _ => .fail
theorem run_indexAt_slice {t e : Nat} {l s : Nat} (hu : P.underlying t = some (.slice e)) (hs : (sizeOf e).run P w = .ok s w) (ad : Addr) (c : Nat) (k : IntKind) (n : Int) (h : inR n l = true) :
    (Instr.indexAt t (.slice (some ad) l c) (.int k n)).run P w = .ok (.pointer (some (ad.add (n.toNat * s)))) w := by
  simp only [inR, decide_eq_true_eq] at h
  simp [Instr.indexAt, asIntOf, run_underlying hu, h, hs]
theorem run_indexAt_array {t e len s : Nat} (hu : P.underlying t = some (.array len e)) (hs : (sizeOf e).run P w = .ok s w) (ad : Addr) (k : IntKind) (n : Int) (h : inR n len = true) :
    (Instr.indexAt t (.pointer (some ad)) (.int k n)).run P w = .ok (.pointer (some (ad.add (n.toNat * s)))) w := by
  simp only [inR, decide_eq_true_eq] at h
  simp [Instr.indexAt, asIntOf, run_underlying hu, h, hs, Instr.sureAddr]
theorem dp_of_sl {t : Ty} {l : List t.El} {A : Option Addr} {n c : Nat} (h : DR M (.sl t l) (.slice A n c)) {k : Nat} (hk : k < l.length) :
    n = l.length ∧ ∃ ad, A = some ad ∧ CVR M β (.dp (split t (l.getD k t.dflt))) (.pointer (some (ad.add (k * t.sz)))) := by
  obtain ⟨hn, _, _, xs, hf, hA⟩ := Flat.of_dr h
  refine ⟨hn, ?_⟩
  obtain ⟨ad, e, hc⟩ := hA (by intro e; subst e; simp at hk)
  refine ⟨ad, e, ad.add (k * t.sz), (xs.drop (k * t.sz)).take t.sz, rfl, hf.at_ (rows_at t hk), fun j u hu => ?_⟩
  rw [add_add]
  refine hc _ u ?_
  rw [List.getElem?_take] at hu
  split at hu
  · rw [← hu, List.getElem?_drop]
  · cases hu
theorem doIndexAddr_ok (ht : TblOk P tbl) (h : Rel w0 M0 M β σ a.tmps w) {t : Nat} {x ix : Operand} (hk : (doIndexAddr tbl σ t x ix).sat K) : Owes P w0 M0 σ K a.tmps w (Instr.indexAt t (a.eval x) (a.eval ix)) := by
  unfold doIndexAddr at hk
  split at hk
  · rename_i l n hl hn
    have hu := (ht t l hl).2
    obtain ⟨k, hi⟩ := (ev_ok h ix).int hn
    have hx := ev_ok h x
    rw [hi]
    split at hk
    · rename_i e hd
      rw [hd] at hu
      split at hk
      · rename_i le ty es hle he
        rw [he] at hx
        split at hk
        · rename_i hsz
          obtain ⟨hr, hk⟩ := Tr.sat_need hk
          have hr' := hr
          simp only [inR, decide_eq_true_eq] at hr'
          generalize a.eval x = v at hx ⊢
          obtain ⟨A, m, c, rfl⟩ := DR.slice (show DR M (.sl ty es) v from hx)
          obtain ⟨hm, ad, rfl, hp⟩ := dp_of_sl (β := β) (show DR M (.sl ty es) _ from hx) (k := n.toNat) (by omega)
          subst hm
          refine Owes.here h hk (run_indexAt_slice hu (sizeOf_ok ht hle w) ad c k n hr) ?_
          rw [← hsz]; exact hp
        · exact hk.elim
      · rename_i le i hle he
        rw [he] at hx
        split at hk
        · rename_i ty T es ho
          split at hk
          · rename_i hsz
            obtain ⟨hr, hk⟩ := Tr.sat_need hk
            have hr' := hr
            simp only [inR, decide_eq_true_eq] at hr'
            obtain ⟨xs, hown, _⟩ := row_at h (show CVR M β (.row i) (a.eval x) from hx).1 ho
            rcases hown.2 with ⟨_, h0⟩ | ⟨g, cap, cur, hv, _⟩
            · omega
            · rw [hv]
              refine Owes.here h hk (run_indexAt_slice hu (sizeOf_ok ht hle w) ⟨g, 0, none⟩ cap k n hr) ⟨g, es.length, cap, ?_, ?_⟩
              · rw [← hv]; exact (show CVR M β (.row i) (a.eval x) from hx).1
              · rw [lit_add, Nat.zero_add, hsz]; rfl
          · exact hk.elim
        · rename_i T r es ho
          split at hk
          · rename_i hsz
            obtain ⟨hr, hk⟩ := Tr.sat_need hk
            have hr' := hr
            simp only [inR, decide_eq_true_eq] at hr'
            obtain ⟨xs, hown, _⟩ := vec_at h (show CVR M β (.row i) (a.eval x) from hx).1 ho
            rcases hown.2 with ⟨_, h0⟩ | ⟨g, cap, cur, hv, _⟩
            · omega
            · rw [hv]
              refine Owes.here h hk (run_indexAt_slice hu (sizeOf_ok ht hle w) ⟨g, 0, none⟩ cap k n hr) ⟨g, es.length, cap, ?_, ?_⟩
              · rw [← hv]; exact (show CVR M β (.row i) (a.eval x) from hx).1
              · rw [lit_add, Nat.zero_add, ← hsz]; rfl
          · exact hk.elim
        · exact hk.elim
      · rename_i le i sz o m hle he
        rw [he] at hx
        split at hk
        · rename_i hsz
          obtain ⟨hr, hk⟩ := Tr.sat_need hk
          obtain ⟨g, m', cap, c, hb, hv, _⟩ := (show CVR M β (.rv i sz o m) _ from hx)
          rw [hv]
          refine Owes.here h hk (run_indexAt_slice hu (sizeOf_ok ht hle w) ⟨g, o * sz, none⟩ c k n hr) ⟨g, m', cap, hb, ?_⟩
          rw [lit_add, hsz, Nat.add_mul]; rfl
        · exact hk.elim
      · exact hk.elim
    · rename_i len e hd
      rw [hd] at hu
      split at hk
      · rename_i le i o hle he
        rw [he] at hx
        obtain ⟨hr, hk⟩ := Tr.sat_need hk
        obtain ⟨b, hb, ev'⟩ := (show CVR M β (.np i o) _ from hx)
        rw [ev']
        exact Owes.here h hk (run_indexAt_array hu (sizeOf_ok ht hle w) _ k n hr) ⟨b, hb, by rw [lit_add]⟩
      · rename_i le cs hle he
        rw [he] at hx
        obtain ⟨hr, hk⟩ := Tr.sat_need hk
        obtain ⟨ad, e, hr'⟩ := dp_drop (show CVR M β (.dp cs) _ from hx) (n.toNat * le.size)
        rw [e]
        exact Owes.here h hk (run_indexAt_array hu (sizeOf_ok ht hle w) ad k n hr) hr'
      · rename_i le i k0 hle he
        rw [he] at hx
        obtain ⟨hr, hk⟩ := Tr.sat_need hk
        obtain ⟨g, m, cap, hb, e⟩ := (show CVR M β (.rp i 1 k0 0) _ from hx)
        rw [e]
        refine Owes.here h hk (run_indexAt_array hu (sizeOf_ok ht hle w) _ k n hr) ⟨g, m, cap, hb, ?_⟩
        rw [lit_add]
        simp
      · exact hk.elim
    · exact hk.elim
  · exact hk.elim

theorem part_ok (ht : TblOk P tbl) {t : Nat} {l : Lay} (hl : get tbl t = some l) (hd : isAggD l.desc = false) {cs : Array Value} {off : Nat} {v : Value} (hv : cs[off]? = some v) : (part t cs off).run P w = .ok v w := by
  have hu := (ht t l hl).2
  generalize l.desc = d at hu hd
  cases d <;> simp [isAggD] at hd <;> simp [part, isAgg, run_underlying hu, hv]
/-- a byte of a text -/
def bt (s : ByteArray) (n : Int) : Int := ((s.data.toList.getD n.toNat 0).toNat : Int)
def doIndex (tbl : Tbl) (σ : St) (t : Nat) (x ix : Operand) : Tr Res :=
  match get tbl t, (ev σ x).val, (ev σ ix).int with
  | some l, some (.string s), some n => match l.desc with | .string => Tr.need (inR n s.size) (.ret (SV.of (.int .u8 (bt s n)), none)) | _ => .fail
  | some l, none, some n =>
    match l.desc, ev σ x with
    | .array len e, .e (.agg cs) =>
      match get tbl e with
      | some le => if isAggD le.desc = false ∧ le.size = 1 ∧ 0 ≤ n ∧ n < len then (match cs[n.toNat]? with | some c => .ret (.e (.c c), none) | none => .fail) else .fail
      | none => .fail
    | _, _ => .fail
  | _, _, _ => .fail
theorem doIndex_ok (ht : TblOk P tbl) (h : Rel w0 M0 M β σ a.tmps w) {t : Nat} {x ix : Operand} (hk : (doIndex tbl σ t x ix).sat K) : Owes P w0 M0 σ K a.tmps w (Instr.index t (a.eval x) (a.eval ix)) := by
  unfold doIndex at hk
  split at hk
  · rename_i l s n hl hs hn
    have hu := (ht t l hl).2
    obtain ⟨k, hi⟩ := (ev_ok h ix).int hn
    obtain ⟨hv, _⟩ := (ev_ok h x).val hs
    split at hk
    · rename_i hd
      rw [hd] at hu
      obtain ⟨hr, hk⟩ := Tr.sat_need hk
      simp only [inR, decide_eq_true_eq] at hr
      have hlt : n.toNat < s.size := by omega
      refine Owes.here h hk ?_ (SVR.of rfl)
      rw [hv, hi]
      have hg : s[n.toNat]? = some s[n.toNat] := ByteArray.getElem?_lt' s _ hlt
      have hb : (s[n.toNat]).toNat = (s.data.toList.getD n.toNat 0).toNat := by
        have hl' : n.toNat < s.data.toList.length := by simpa using hlt
        simp only [List.getD, List.getElem?_eq_getElem hl', Option.getD_some]
        rfl
      simp [Instr.index, asIntOf, run_underlying hu, hr.1, hg, bt, hb]
    · exact hk.elim
  · rename_i l n hl _ hn
    have hu := (ht t l hl).2
    obtain ⟨k, hi⟩ := (ev_ok h ix).int hn
    have hx := ev_ok h x
    split at hk
    · rename_i len e cs hd he
      rw [hd] at hu
      rw [he] at hx
      obtain ⟨vs, ev', hc⟩ := hx
      split at hk
      · rename_i le hle
        split at hk
        · rename_i hcond
          obtain ⟨hag, hs1, h0, hlt⟩ := hcond
          split at hk
          · rename_i c hcell
            obtain ⟨u, hu', hr, _⟩ := hc.at__ hcell
            have hp := part_ok (w := w) ht hle hag (cs := vs) (off := n.toNat) (v := u) (by simpa using hu')
            refine Owes.here h hk ?_ hr
            rw [ev', hi]
            simp [Instr.index, asIntOf, run_underlying hu, h0, hlt, sizeOf_ok ht hle w, hs1, hp]
          · exact hk.elim
        · exact hk.elim
      · exact hk.elim
    · exact hk.elim
  · exact hk.elim

def doNil (σ : St) (x : Operand) : Tr Res :=
  match ev σ x with
  | .e (.c (.dp cs)) => .ret (.e (.c (.dp cs)), none)
  | .e (.c (.np i o)) => .ret (.e (.c (.np i o)), none)
  | .e (.c (.rp i sz k o)) => .ret (.e (.c (.rp i sz k o)), none)
  | _ => .fail
theorem doNil_ok (h : Rel w0 M0 M β σ a.tmps w) {x : Operand} (hk : (doNil σ x).sat K) : ∃ ad y, K (y, none) ∧ a.eval x = .pointer (some ad) ∧ SVR M β y (.pointer (some ad)) := by
  have hx := ev_ok h x
  unfold doNil at hk
  split at hk
  · rename_i cs he
    rw [he] at hx
    obtain ⟨ad, us, e, hc⟩ := (show CVR M β (.dp cs) _ from hx)
    exact ⟨ad, _, hk, e, ad, us, rfl, hc⟩
  · rename_i i o he
    rw [he] at hx
    obtain ⟨b, hb, e⟩ := (show CVR M β (.np i o) _ from hx)
    exact ⟨_, _, hk, e, b, hb, rfl⟩
  · rename_i i sz k o he
    rw [he] at hx
    obtain ⟨g, m, c, hb, e⟩ := (show CVR M β (.rp i sz k o) _ from hx)
    exact ⟨_, _, hk, e, g, m, c, hb, rfl⟩
  · exact hk.elim

def doExtract (σ : St) (x : Operand) (ix : Nat) : Tr Res :=
  match ev σ x with
  | .tup l => match l[ix]? with | some e => .ret (.e e, none) | none => .fail
  | _ => .fail
theorem EVs.at_ {l : List EV} {vs : List Value} (h : EVs M β l vs) : ∀ {j : Nat} {x : EV}, l[j]? = some x → ∃ u, vs[j]? = some u ∧ EVR M β x u := by
  induction h with
  | nil => intro j x hx; simp at hx
  | cons h1 _ ih =>
    intro j x hx
    cases j with
    | zero => simp at hx; subst hx; exact ⟨_, rfl, h1⟩
    | succ j => exact ih (j := j) (by simpa using hx)
theorem doExtract_ok (h : Rel w0 M0 M β σ a.tmps w) {x : Operand} {ix : Nat} (hk : (doExtract σ x ix).sat K) : Owes P w0 M0 σ K a.tmps w (Instr.extract (a.eval x) ix) := by
  have hx := ev_ok h x
  unfold doExtract at hk
  split at hk
  · rename_i l he
    rw [he] at hx
    obtain ⟨vs, e, hvs⟩ := hx
    split at hk
    · rename_i y hy
      obtain ⟨u, hu, hr⟩ := hvs.at_ hy
      exact Owes.here h hk (by rw [e]; simp at hu; simp [Instr.extract, hu]) hr
    · exact hk.elim
  · exact hk.elim

/-- bounds of a part: none is the slice's own -/
def bnd (σ : St) (d : Int) : Option Operand → Option Int
  | none => some d
  | some x => (ev σ x).int
def okB (lo hi : Int) (n : Nat) : Bool := decide (0 ≤ lo ∧ lo ≤ hi ∧ hi ≤ n)
def doSlice (tbl : Tbl) (σ : St) (t : Nat) (x : Operand) (lo hi mx : Option Operand) : Tr Res :=
  match get tbl t, mx with
  | some l, none =>
    match l.desc with
    | .string =>
      match (ev σ x).val with
      | some (.string s) =>
        match bnd σ 0 lo, bnd σ s.size hi with
        | some p, some q => Tr.need (okB p q s.size) (.ret (SV.of (.string (s.extract p.toNat q.toNat)), none))
        | _, _ => .fail
      | _ => .fail
    | .slice e =>
      match get tbl e, ev σ x with
      | some le, .e (.c (.d (.sl ty es))) =>
        match bnd σ 0 lo, bnd σ es.length hi with
        | some p, some q => if ty.sz = le.size then Tr.need (okB p q es.length) (.ret (SV.dat (.sl ty ((es.take q.toNat).drop p.toNat)), none)) else .fail
        | _, _ => .fail
      | some le, .e (.c (.row i)) =>
        match get σ.objs i with
        | some (.row ty _ es) =>
          match bnd σ 0 lo, bnd σ es.length hi with
          | some p, some q => if ty.sz = le.size then Tr.need (okB p q es.length && decide (p < es.length)) (.ret (.e (.c (.rv i ty.sz p.toNat (q - p).toNat)), none)) else .fail
          | _, _ => .fail
        | some (.vec _ r es) =>
          match bnd σ 0 lo, bnd σ es.length hi with
          | some p, some q => if 1 = le.size then Tr.need (okB p q (max es.length r)) (if p < es.length then .ret (.e (.c (.rv i 1 p.toNat (q - p).toNat)), none) else if p < q then .ret (.e (.c (.rv i 1 p.toNat (q - p).toNat)), none) else .ret (SV.dat (.sl .bool []), none)) else .fail
          | _, _ => .fail
        | _ => .fail
      | some _, .e (.c .nil) =>
        match bnd σ 0 lo, bnd σ 0 hi with
        | some p, some q => Tr.need (okB p q 0) (.ret (.e (.c .nil), none))
        | _, _ => .fail
      | _, _ => .fail
    | _ => .fail
  | some l, some m =>
    match l.desc with
    | .slice e =>
      match get tbl e, ev σ x with
      | some le, .e (.c (.d (.sl ty es))) =>
        match bnd σ 0 lo, hi.bind fun z => (ev σ z).int, (ev σ m).int with
        | some p, some q, some r => if ty.sz = le.size then Tr.need (okB p q r.toNat && okB 0 r es.length) (.ret (SV.dat (.sl ty ((es.take q.toNat).drop p.toNat)), none)) else .fail
        | _, _, _ => .fail
      | some _, .e (.c .nil) =>
        match bnd σ 0 lo, hi.bind fun z => (ev σ z).int, (ev σ m).int with
        | some p, some q, some r => Tr.need (okB p q r.toNat && okB 0 r 0) (.ret (.e (.c .nil), none))
        | _, _, _ => .fail
      | some _, .e (.c (.row i)) =>
        match bnd σ 0 lo, hi.bind fun z => (ev σ z).int, (ev σ m).int with
        | some p, some q, some r => (rowLen σ i).bind fun n => Tr.need (okB p q r.toNat && okB 0 r n) (.ret (.any, none))
        | _, _, _ => .fail
      | _, _ => .fail
    | _ => .fail
  | _, _ => .fail
theorem bnd_ok (h : Rel w0 M0 M β σ a.tmps w) {d n : Int} {o : Option Operand} (hb : bnd σ d o = some n) : (o = none ∧ n = d) ∨ ∃ k, o.map a.eval = some (.int k n) := by
  cases o with
  | none => simp [bnd] at hb; exact .inl ⟨rfl, hb.symm⟩
  | some x => obtain ⟨k, e⟩ := (ev_ok h x).int hb; exact .inr ⟨k, by simp [e]⟩
theorem run_sliceBounds (h : Rel w0 M0 M β σ a.tmps w) {isS : Bool} {n c : Nat} {lo hi : Option Operand} {p q : Int} (hp : bnd σ 0 lo = some p) (hq : bnd σ n hi = some q) (hok : okB p q n = true) (hc : n ≤ c) :
    (Instr.sliceBounds isS n c (lo.map a.eval) (hi.map a.eval) none).run P w = .ok (p.toNat, q.toNat, c) w := by
  simp only [okB, decide_eq_true_eq] at hok
  have hqc : q ≤ c := by omega
  rcases bnd_ok h hp with ⟨rfl, rfl⟩ | ⟨k, e⟩ <;> rcases bnd_ok h hq with ⟨rfl, rfl⟩ | ⟨k', e'⟩
  · simp [Instr.sliceBounds]
  · rw [e']
    have h2 := run_sliceBound (P := P) w k' q c (if isS then .sliceAcap else .sliceAlen) (by omega) hqc
    simp [Instr.sliceBounds, h2]
  · rw [e]
    have h1 := run_sliceBound (P := P) w k p n .sliceB (by omega) (by omega)
    simp [Instr.sliceBounds, h1]
  · rw [e, e']
    have h2 := run_sliceBound (P := P) w k' q c (if isS then .sliceAcap else .sliceAlen) (by omega) hqc
    have h1 := run_sliceBound (P := P) w k p q.toNat .sliceB (by omega) (by omega)
    simp [Instr.sliceBounds, h2, h1]
theorem run_sliceBounds2 (h : Rel w0 M0 M β σ a.tmps w) {isS : Bool} {n m c : Nat} {lo hi : Option Operand} {p q : Int} (hp : bnd σ 0 lo = some p) (hq : bnd σ n hi = some q) (hok : okB p q m = true) (hc : m ≤ c) :
    (Instr.sliceBounds isS n c (lo.map a.eval) (hi.map a.eval) none).run P w = .ok (p.toNat, q.toNat, c) w := by
  simp only [okB, decide_eq_true_eq] at hok
  have hqc : q ≤ c := by omega
  rcases bnd_ok h hp with ⟨rfl, rfl⟩ | ⟨k, e⟩ <;> rcases bnd_ok h hq with ⟨rfl, rfl⟩ | ⟨k', e'⟩
  · simp [Instr.sliceBounds]
  · rw [e']
    have h2 := run_sliceBound (P := P) w k' q c (if isS then .sliceAcap else .sliceAlen) (by omega) hqc
    simp [Instr.sliceBounds, h2]
  · rw [e]
    have h1 := run_sliceBound (P := P) w k p n .sliceB (by omega) (by omega)
    simp [Instr.sliceBounds, h1]
  · rw [e, e']
    have h2 := run_sliceBound (P := P) w k' q c (if isS then .sliceAcap else .sliceAlen) (by omega) hqc
    have h1 := run_sliceBound (P := P) w k p q.toNat .sliceB (by omega) (by omega)
    simp [Instr.sliceBounds, h2, h1]
theorem run_sliceBounds3 (h : Rel w0 M0 M β σ a.tmps w) {n c : Nat} {lo hi : Option Operand} {mx : Operand} {p q r : Int} (hp : bnd σ 0 lo = some p) (hq : (hi.bind fun z => (ev σ z).int) = some q) (hr : (ev σ mx).int = some r)
    (hok : okB p q r.toNat = true) (hc : 0 ≤ r ∧ r ≤ c) :
    (Instr.sliceBounds true n c (lo.map a.eval) (hi.map a.eval) (some (a.eval mx))).run P w = .ok (p.toNat, q.toNat, r.toNat) w := by
  simp only [okB, decide_eq_true_eq] at hok
  obtain ⟨km, em⟩ := (ev_ok h mx).int hr
  cases hi with
  | none => cases hq
  | some z =>
    obtain ⟨kq, eq⟩ := (ev_ok h z).int (show (ev σ z).int = some q from hq)
    have h3 := run_sliceBound (P := P) w km r c .slice3Acap (by omega) hc.2
    have h2 := run_sliceBound (P := P) w kq q r.toNat .slice3B (by omega) (by omega)
    rcases bnd_ok h hp with ⟨rfl, rfl⟩ | ⟨k, e⟩
    · simp [Instr.sliceBounds, em, eq, h3, h2]
    · rw [e]
      have h1 := run_sliceBound (P := P) w k p q.toNat .slice3C (by omega) (by omega)
      simp [Instr.sliceBounds, em, eq, h3, h2, h1]
theorem Flat.takeS {sz : Nat} {es : List (List D)} {xs : List Value} (hf : Flat M sz es xs) (m : Nat) : Flat M sz (es.take m) (xs.take (m * sz)) := by
  induction hf generalizing m with
  | nil => simp; exact .nil
  | @cons e vs es xs h1 h2 h3 ih =>
    cases m with
    | zero => simp; exact .nil
    | succ m =>
      have : vs.length = sz := h1.length.trans h2
      rw [List.take_succ_cons, show (m + 1) * sz = vs.length + m * sz by rw [Nat.add_mul, this]; omega, List.take_length_add_append]
      exact .cons h1 h2 (ih m)
theorem Flat.dropS {sz : Nat} {es : List (List D)} {xs : List Value} (hf : Flat M sz es xs) (m : Nat) : Flat M sz (es.drop m) (xs.drop (m * sz)) := by
  induction hf generalizing m with
  | nil => simp; exact .nil
  | @cons e vs es xs h1 h2 h3 ih =>
    cases m with
    | zero => simpa using Flat.cons h1 h2 h3
    | succ m =>
      have : vs.length = sz := h1.length.trans h2
      rw [List.drop_succ_cons, show (m + 1) * sz = vs.length + m * sz by rw [Nat.add_mul, this]; omega, ← List.drop_drop, List.drop_left]
      exact ih m
theorem sl_part {t : Ty} {l : List t.El} {A : Option Addr} {n c : Nat} (h : DR M (.sl t l) (.slice A n c)) {p q : Nat} (hpq : p ≤ q) (hq : q ≤ n) :
    DR M (.sl t ((l.take q).drop p)) (.slice (if c = p then A else A.map (·.add (p * t.sz))) (q - p) (c - p)) := by
  obtain ⟨hn, hnc, hcm, xs, hf, hA⟩ := Flat.of_dr h
  have hl : ((l.take q).drop p).length = q - p := by simp; omega
  have key : Flat M t.sz (rows t ((l.take q).drop p)) (((xs.take (q * t.sz)).drop (p * t.sz))) := by
    rw [rows_drop, rows_take]
    exact (hf.takeS q).dropS p
  have := Flat.to_dr (A := if c = p then A else A.map (·.add (p * t.sz))) (c := c - p) key (by rw [hl]; omega) (by omega) (fun hne => ?_)
  · rwa [hl] at this
  · have hpos : 0 < q - p := by rw [← hl]; exact List.length_pos_iff.2 hne
    obtain ⟨ad, e, hc⟩ := hA (by intro e; subst e; simp at hne)
    subst e
    refine ⟨ad.add (p * t.sz), by rw [if_neg (by omega)]; rfl, fun j u hu => ?_⟩
    rw [add_add]
    refine hc _ u ?_
    rw [List.getElem?_drop, List.getElem?_take] at hu
    split at hu
    · exact hu
    · cases hu
theorem sl_part3 {t : Ty} {l : List t.El} {A : Option Addr} {n c : Nat} (h : DR M (.sl t l) (.slice A n c)) {p q r : Nat} (hpq : p ≤ q) (hq : q ≤ r) (hr : r ≤ n) :
    DR M (.sl t ((l.take q).drop p)) (.slice (if r = p then A else A.map (·.add (p * t.sz))) (q - p) (r - p)) := by
  obtain ⟨hn, hnc, hcm, xs, hf, hA⟩ := Flat.of_dr h
  have hl : ((l.take q).drop p).length = q - p := by simp; omega
  have key : Flat M t.sz (rows t ((l.take q).drop p)) (((xs.take (q * t.sz)).drop (p * t.sz))) := by
    rw [rows_drop, rows_take]
    exact (hf.takeS q).dropS p
  have := Flat.to_dr (A := if r = p then A else A.map (·.add (p * t.sz))) (c := r - p) key (by rw [hl]; omega) (by omega) (fun hne => ?_)
  · rwa [hl] at this
  · have hpos : 0 < q - p := by rw [← hl]; exact List.length_pos_iff.2 hne
    obtain ⟨ad, e, hc⟩ := hA (by intro e; subst e; simp at hne)
    subst e
    refine ⟨ad.add (p * t.sz), by rw [if_neg (by omega)]; rfl, fun j u hu => ?_⟩
    rw [add_add]
    refine hc _ u ?_
    rw [List.getElem?_drop, List.getElem?_take] at hu
    split at hu
    · exact hu
    · cases hu
theorem doSlice_ok (ht : TblOk P tbl) (h : Rel w0 M0 M β σ a.tmps w) {t : Nat} {x : Operand} {lo hi mx : Option Operand} (hk : (doSlice tbl σ t x lo hi mx).sat K) :
    Owes P w0 M0 σ K a.tmps w (Instr.sliceAt t (a.eval x) (lo.map a.eval) (hi.map a.eval) (mx.map a.eval)) := by
  unfold doSlice at hk
  split at hk
  · rename_i l hl
    have hu := (ht t l hl).2
    have hx := ev_ok h x
    split at hk
    · rename_i hd
      rw [hd] at hu
      split at hk
      · rename_i s hs
        obtain ⟨hv, _⟩ := hx.val hs
        split at hk
        · rename_i p q hp hq
          obtain ⟨hok, hk⟩ := Tr.sat_need hk
          have hb := run_sliceBounds (P := P) (isS := false) (c := s.size) h hp hq hok (Nat.le_refl _)
          exact Owes.here h hk (by rw [hv]; simp [Instr.sliceAt, run_underlying hu, Instr.slice, hb]) (SVR.of rfl)
        · exact hk.elim
      · exact hk.elim
    · rename_i e hd
      rw [hd] at hu
      split at hk
      · rename_i le ty es hle he
        rw [he] at hx
        split at hk
        · rename_i p q hp hq
          split at hk
          · rename_i hsz
            obtain ⟨hok, hk⟩ := Tr.sat_need hk
            generalize hv : a.eval x = v at hx
            obtain ⟨A, n, c, rfl⟩ := DR.slice (show DR M (.sl ty es) v from hx)
            have hdr := (show DR M (.sl ty es) _ from hx)
            obtain ⟨hn, hnc, _⟩ := Flat.of_dr hdr
            subst hn
            have hb := run_sliceBounds (P := P) (isS := true) (c := c) h hp hq hok hnc
            have hok' := hok
            simp only [okB, decide_eq_true_eq] at hok'
            refine Owes.here h hk ?_ (show DR M _ _ from sl_part hdr (p := p.toNat) (q := q.toNat) (by omega) (by omega))
            simp [Instr.sliceAt, run_underlying hu, Instr.slice, hb, sizeOf_ok ht hle w, hsz]
          · exact hk.elim
        · exact hk.elim
      · rename_i le i hle he
        rw [he] at hx
        split at hk
        · rename_i ty T es ho
          split at hk
          · rename_i p q hp hq
            split at hk
            · rename_i hsz
              obtain ⟨hok2, hk⟩ := Tr.sat_need hk
              simp only [Bool.and_eq_true, decide_eq_true_eq] at hok2
              obtain ⟨hok, hlt⟩ := hok2
              have hok' := hok
              simp only [okB, decide_eq_true_eq] at hok'
              obtain ⟨xs, hown, _⟩ := row_at h (show CVR M β (.row i) (a.eval x) from hx).1 ho
              rcases hown.2 with ⟨_, h0⟩ | ⟨g, cap, cur, hv, _, _, hnc, hcm, _⟩
              · omega
              · have hb := run_sliceBounds (P := P) (isS := true) (c := cap) h hp hq hok hnc
                refine Owes.here h hk (v := .slice (some ⟨g, p.toNat * ty.sz, none⟩) (q - p).toNat (cap - p.toNat)) ?_ ⟨g, es.length, cap, cap - p.toNat, by rw [← hv]; exact (show CVR M β (.row i) (a.eval x) from hx).1, rfl, by omega, by omega, by omega⟩
                rw [hv]
                have hne : cap ≠ p.toNat := by omega
                have hpq : q.toNat - p.toNat = (q - p).toNat := by omega
                simp [Instr.sliceAt, run_underlying hu, Instr.slice, hb, sizeOf_ok ht hle w, hsz, hne, lit_add, hpq]
            · exact hk.elim
          · exact hk.elim
        · rename_i T r es ho
          split at hk
          · rename_i p q hp hq
            split at hk
            · rename_i hsz
              obtain ⟨hok, hk0⟩ := Tr.sat_need hk
              clear hk
              have hk := hk0
              clear hk0
              have hok' := hok
              simp only [okB, decide_eq_true_eq] at hok'
              have hrow := (show CVR M β (.row i) (a.eval x) from hx).1
              obtain ⟨xs, hown, _, hroom⟩ := vec_at h hrow ho
              have part : (p < es.length ∨ p < q) → Owes P w0 M0 σ (fun r => r = (.e (.c (.rv i 1 p.toNat (q - p).toNat)), none)) a.tmps w (Instr.sliceAt t (a.eval x) (lo.map a.eval) (hi.map a.eval) none) := fun hlt => by
                rcases hown.2 with ⟨e0, h0⟩ | ⟨g, cap, cur, hv, _, _, hnc, hcm, _⟩
                · rw [e0] at hroom; simp [capOf] at hroom; omega
                · have hcap : max es.length r ≤ cap := by rw [hv] at hroom; simp [capOf] at hroom; omega
                  have hb := run_sliceBounds2 (P := P) (isS := true) (c := cap) h hp hq hok hcap
                  refine Owes.here h rfl (v := .slice (some ⟨g, p.toNat * 1, none⟩) (q - p).toNat (cap - p.toNat)) ?_ ⟨g, es.length, cap, cap - p.toNat, by rw [← hv]; exact hrow, rfl, by omega, by omega, by omega⟩
                  rw [hv]
                  have hne : cap ≠ p.toNat := by omega
                  have hpq : q.toNat - p.toNat = (q - p).toNat := by omega
                  simp [Instr.sliceAt, run_underlying hu, Instr.slice, hb, sizeOf_ok ht hle w, ← hsz, hne, lit_add, hpq]
              split at hk
              · rename_i hlt
                obtain ⟨x', ch, v, w', e, hrun, hrest⟩ := part (.inl hlt)
                cases e
                exact ⟨_, _, v, w', hk, hrun, hrest⟩
              · split at hk
                · rename_i hlt
                  obtain ⟨x', ch, v, w', e, hrun, hrest⟩ := part (.inr hlt)
                  cases e
                  exact ⟨_, _, v, w', hk, hrun, hrest⟩
                · rename_i h1 h2
                  have hpq : p = q := by omega
                  subst hpq
                  obtain ⟨A, c, hv, hnc, hcm⟩ := row_form hown
                  have hcap : max es.length r ≤ c := by rw [hv] at hroom; simp [capOf] at hroom; omega
                  have hb := run_sliceBounds2 (P := P) (isS := true) (c := c) h hp hq hok hcap
                  refine Owes.here h hk (v := .slice (if c = p.toNat then A else A.map (·.add (p.toNat * le.size))) 0 (c - p.toNat)) ?_ (show DR M _ _ from .sl (fun _ _ => undef) (Nat.zero_le _) (by omega) (fun h => absurd rfl h) (fun k j e x he _ => by simp [rows] at he))
                  rw [hv]
                  simp [Instr.sliceAt, run_underlying hu, Instr.slice, hb, sizeOf_ok ht hle w]
            · exact hk.elim
          · exact hk.elim
        · exact hk.elim
      · rename_i le hle he
        rw [he] at hx
        split at hk
        · rename_i p q hp hq
          obtain ⟨hok, hk⟩ := Tr.sat_need hk
          have hok' := hok
          simp only [okB, decide_eq_true_eq] at hok'
          have hb := run_sliceBounds (P := P) (isS := true) (n := 0) (c := 0) h hp hq hok (Nat.le_refl _)
          refine Owes.here h hk ?_ (show CVR M β .nil (.slice none 0 0) from rfl)
          rw [show a.eval x = .slice none 0 0 from hx]
          have hp0 : p.toNat = 0 := by omega
          have hq0 : q.toNat = 0 := by omega
          rw [hp0, hq0] at hb
          simp [Instr.sliceAt, run_underlying hu, Instr.slice, hb, sizeOf_ok ht hle w]
        · exact hk.elim
      · exact hk.elim
    · exact hk.elim
  · rename_i l m hl
    have hu := (ht t l hl).2
    have hx := ev_ok h x
    split at hk
    · rename_i e hd
      rw [hd] at hu
      split at hk
      · rename_i le ty es hle he
        rw [he] at hx
        split at hk
        · rename_i p q r hp hq hr
          split at hk
          · rename_i hsz
            obtain ⟨hok, hk⟩ := Tr.sat_need hk
            simp only [Bool.and_eq_true] at hok
            obtain ⟨hok, hok2⟩ := hok
            generalize hv : a.eval x = v at hx
            obtain ⟨A, n, c, rfl⟩ := DR.slice (show DR M (.sl ty es) v from hx)
            have hdr := (show DR M (.sl ty es) _ from hx)
            obtain ⟨hn, hnc, _⟩ := Flat.of_dr hdr
            subst hn
            have hok' := hok
            simp only [okB, decide_eq_true_eq] at hok' hok2
            have hb := run_sliceBounds3 (P := P) (n := es.length) (c := c) h hp hq hr hok (by omega)
            refine Owes.here h hk ?_ (show DR M _ _ from sl_part3 hdr (p := p.toNat) (q := q.toNat) (r := r.toNat) (by omega) (by omega) (by omega))
            simp [Instr.sliceAt, run_underlying hu, Instr.slice, hb, sizeOf_ok ht hle w, hsz]
          · exact hk.elim
        · exact hk.elim
      · rename_i le hle he
        rw [he] at hx
        split at hk
        · rename_i p q r hp hq hr
          obtain ⟨hok, hk⟩ := Tr.sat_need hk
          simp only [Bool.and_eq_true] at hok
          obtain ⟨hok, hok2⟩ := hok
          have hok' := hok
          simp only [okB, decide_eq_true_eq] at hok' hok2
          have hb := run_sliceBounds3 (P := P) (n := 0) (c := 0) h hp hq hr hok (by omega)
          refine Owes.here h hk ?_ (show CVR M β .nil (.slice none 0 0) from rfl)
          rw [show a.eval x = .slice none 0 0 from hx]
          have hp0 : p.toNat = 0 := by omega
          have hq0 : q.toNat = 0 := by omega
          have hr0 : r.toNat = 0 := by omega
          rw [hp0, hq0, hr0] at hb
          simp [Instr.sliceAt, run_underlying hu, Instr.slice, hb, sizeOf_ok ht hle w]
        · exact hk.elim
      · rename_i le i hle he
        rw [he] at hx
        split at hk
        · rename_i p q r hp hq hr
          have hrow := (show CVR M β (.row i) (a.eval x) from hx)
          have hk' := Tr.sat_bind hk
          unfold rowLen at hk'
          have fin : ∀ {n : Nat} {A : Option Addr} {c : Nat}, a.eval x = .slice A n c → n ≤ c → (Tr.need (okB p q r.toNat && okB 0 r n) (.ret (.any, none) : Tr Res)).sat K → Owes P w0 M0 σ K a.tmps w (Instr.sliceAt t (a.eval x) (lo.map a.eval) (hi.map a.eval) (some (a.eval m))) := fun {n A c} hv hnc hk => by
            obtain ⟨hok, hk⟩ := Tr.sat_need hk
            simp only [Bool.and_eq_true] at hok
            obtain ⟨hok, hok2⟩ := hok
            have hok' := hok
            simp only [okB, decide_eq_true_eq] at hok' hok2
            have hb := run_sliceBounds3 (P := P) (n := n) (c := c) h hp hq hr hok (by omega)
            refine Owes.here h hk (v := .slice (if r.toNat = p.toNat then A else A.map (·.add (p.toNat * le.size))) (q.toNat - p.toNat) (r.toNat - p.toNat)) ?_ trivial
            rw [hv]
            simp [Instr.sliceAt, run_underlying hu, Instr.slice, hb, sizeOf_ok ht hle w]
          split at hk'
          · rename_i ty T es ho
            obtain ⟨xs, hown, _⟩ := row_at h hrow.1 ho
            obtain ⟨A, c, e, h1, _⟩ := row_form hown
            exact fin e h1 hk'
          · rename_i T rm es ho
            obtain ⟨xs, hown, _⟩ := vec_at h hrow.1 ho
            obtain ⟨A, c, e, h1, _⟩ := row_form hown
            exact fin e h1 hk'
          · exact hk'.elim
        · exact hk.elim
      · exact hk.elim
    · exact hk.elim
  · exact hk.elim
end
end Go.Proofs.YtjebfbkigkjboaaGreatDoor.Sy

/- The calculus, seventh part: conversions; what is made and written. -/
namespace Go.Proofs.YtjebfbkigkjboaaGreatDoor.Sy
open Go.RowKit Kit

section
variable {P : Program} {tbl : Tbl} {w0 : Base} {w : World} {M0 M : Snap} {β : Plc} {σ : St} {a : Act} {K : Res → Prop}

theorem flat_bytes {l : List Int} {xs : List Value} {sz : Nat} (h : Flat M sz (rows (.int .u8) l) xs) : xs = l.map (Value.int .u8) := by
  induction l generalizing xs with
  | nil => cases h; rfl
  | cons n l ih =>
    simp only [rows, List.map_cons] at h
    cases h with
    | cons h1 h2 h3 =>
      cases h1 with
      | cons hd hn =>
        cases hn
        cases hd
        simp only [List.map_cons, List.cons_append, List.nil_append]
        rw [ih h3]
/-- a text out of bytes -/
def txt (l : List Int) : ByteArray := strOfNums l

/-- elements of a kind -/
structure TL where
  t : Ty
  l : List t.El
/-- the elements that can be read behind a slice value -/
def elems (σ : St) : SV → Option TL
  | .e (.c (.d (.sl t l))) => some ⟨t, l⟩
  | .e (.c (.row i)) =>
    match get σ.objs i with
    | some (.row t _ l) => some ⟨t, l⟩
    | _ => none
  | .e (.c (.rv i sz k n)) =>
    match get σ.objs i with
    | some (.row t _ l) => if sz = t.sz then some ⟨t, (l.drop k).take n⟩ else none
    | _ => none
  | _ => none
/-- whether all of a part lies within its row -/
def inside (σ : St) : SV → Bool
  | .e (.c (.rv i _ k n)) =>
    match get σ.objs i with
    | some (.row _ _ l) => decide (k + n ≤ l.length)
    | _ => false
  | _ => true
/-- what is read behind it, in this world -/
theorem elems_ok (h : Rel w0 M0 M β σ a.tmps w) {x : SV} {v : Value} (hx : SVR M β x v) {t : Ty} {l : List t.El} (he : elems σ x = some ⟨t, l⟩) (hin : inside σ x = true) :
    ∃ A c xs, v = .slice A l.length c ∧ l.length ≤ c ∧ Flat M t.sz (rows t l) xs ∧ (∀ u ∈ xs, u.oneCell' = true) ∧ (l ≠ [] → ∃ ad, A = some ad ∧ ∀ W : World, W.heap = w.heap → ∀ j u, xs[j]? = some u → W.cell? (ad.add j) = some u) := by
  have hW : ∀ W : World, W.heap = w.heap → ∀ (ad : Addr), W.cell? ad = w.cell? ad := fun W e ad => by unfold World.cell?; rw [e]
  unfold elems at he
  split at he
  · cases he
    obtain ⟨A, n, c, rfl⟩ := DR.slice (show DR M (.sl t l) v from hx)
    obtain ⟨hn, hnc, _, xs, hf, hA⟩ := Flat.of_dr (show DR M (.sl t l) _ from hx)
    subst hn
    refine ⟨A, c, xs, rfl, hnc, hf, hf.one, fun hne => ?_⟩
    obtain ⟨ad, e, hc⟩ := hA hne
    exact ⟨ad, e, fun W hw j u hu => by rw [hW W hw]; exact Snap.cell_world h.snap (hc j u hu)⟩
  · rename_i i
    split at he
    · rename_i t' T l' ho
      cases he
      obtain ⟨xs, hown, hf⟩ := row_at h (show CVR M β (.row i) v from hx).1 ho
      rcases hown.2 with ⟨rfl, h0⟩ | ⟨g, cap, cur, hv, _, _, hnc, _⟩
      · have : l = [] := List.eq_nil_of_length_eq_zero h0
        subst this
        cases hf
        exact ⟨none, 0, [], rfl, Nat.le_refl _, .nil, by simp, fun hne => absurd rfl hne⟩
      · subst hv
        exact ⟨_, cap, xs, rfl, hnc, hf, hf.one, fun _ => ⟨_, rfl, fun W hw j u hu => by rw [hW W hw]; exact hown.cells (g := g) rfl j u hu⟩⟩
    · cases he
  · rename_i i sz k n
    split at he
    · rename_i t' T l' ho
      split at he
      · rename_i hsz
        cases he
        simp only [inside, ho, decide_eq_true_eq] at hin
        obtain ⟨g, m, cap, c, hb, hv, hnc, _⟩ := (show CVR M β (.rv i sz k n) v from hx)
        obtain ⟨xs, hown, hf⟩ := row_at h hb ho
        have hl : ((l'.drop k).take n).length = n := by simp; omega
        subst hsz
        have hf' : Flat M t.sz (rows t ((l'.drop k).take n)) ((xs.drop (k * t.sz)).take (n * t.sz)) := by
          rw [rows_take, rows_drop]; exact (hf.dropS k).takeS n
        refine ⟨_, c, _, by rw [hl]; exact hv, by omega, hf', hf'.one, fun _ => ⟨_, rfl, fun W hw j u hu => ?_⟩⟩
        rw [hW W hw, lit_add]
        have hg : ∃ m' cap', (Value.slice (some ⟨g, 0, none⟩) m cap) = .slice (some ⟨g, 0, none⟩) m' cap' := ⟨_, _, rfl⟩
        have := hown.cells (g := g) (by rcases hown.2 with ⟨h1, _⟩ | ⟨g', c', cur, h1, _⟩ <;> cases h1; rfl) (k * t.sz + j) u (by
          rw [List.getElem?_take] at hu
          split at hu
          · rw [List.getElem?_drop] at hu; exact hu
          · cases hu)
        rwa [lit_add, Nat.zero_add] at this
      · cases he
    · cases he
  · cases he

def doConv (tbl : Tbl) (σ : St) (s t : Nat) (x : Operand) : Tr Res :=
  match get tbl s, get tbl t with
  | some ls, some lt =>
    match lt.desc, ls.desc, ev σ x with
    | .int k, _, .e (.c (.d (.v (.int _ n)))) => .ret (SV.of (.int k (k.wrap n)), none)
    | .string, .slice e, .e (.c .nil) =>
      match get tbl e with
      | some le => match le.desc with | .int .u8 => .ret (SV.of (.string ByteArray.empty), none) | _ => .fail
      | none => .fail
    | .string, .slice e, z =>
      match get tbl e, elems σ z with
      | some le, some ⟨.int .u8, l⟩ =>
        match le.desc with
        | .int .u8 => Tr.need (inside σ z) (.ret (SV.of (.string (txt l)), none))
        | _ => .fail
      | _, _ => .fail
    | _, _, _ => .fail
  | _, _ => .fail
theorem run_conv_bytes {src e dst : Nat} (hs : P.underlying src = some (.slice e)) (he : P.underlying e = some (.int .u8)) (hd : P.underlying dst = some .string) (A : Option Addr) (c : Nat) (l : List Int)
    (hc : l ≠ [] → ∃ ad, A = some ad ∧ ∀ j u, (l.map (Value.int .u8))[j]? = some u → w.cell? (ad.add j) = some u) :
    (convert src dst (.slice A l.length c)).run P w = .ok (.string (txt l)) w := by
  have hf : ∀ (l : List Int) (s : ByteArray), l.foldl (fun r n => r.push (UInt8.ofNat n.toNat)) s = ⟨s.data ++ (l.map fun n => UInt8.ofNat n.toNat).toArray⟩ := foldl_push_bytes
  cases A with
  | none =>
    have : l = [] := by
      cases l with
      | nil => rfl
      | cons n l => obtain ⟨ad, e, _⟩ := hc (by simp); cases e
    subst this
    simp [convert, run_underlying hs, run_underlying hd, run_underlying he, Conv.bytesToString, txt, strOfNums]
    rfl
  | some ad =>
    have hl : (loadCells ad l.length).run P w = .ok (l.map (Value.int .u8)).toArray w := by
      have := run_loadCells_list (P := P) w ad (l.map (Value.int .u8)) (fun j v hj => by
        obtain ⟨ad', e, h⟩ := hc (by intro e; subst e; simp at hj)
        cases e
        exact h j v hj)
      simpa using this
    have hb := run_bytesToString (P := P) w ad l.length c l hl
    rw [hf] at hb
    simp [convert, run_underlying hs, run_underlying hd, run_underlying he, hb, txt, strOfNums]
theorem doConv_ok (ht : TblOk P tbl) (h : Rel w0 M0 M β σ a.tmps w) {s t : Nat} {x : Operand} (hk : (doConv tbl σ s t x).sat K) : Owes P w0 M0 σ K a.tmps w (convert s t (a.eval x)) := by
  unfold doConv at hk
  split at hk
  · rename_i ls lt hls hlt
    have hus := (ht s ls hls).2
    have hut := (ht t lt hlt).2
    have hx := ev_ok h x
    split at hk
    · rename_i k d k' n hd he
      rw [he] at hx; rw [hd] at hut
      generalize a.eval x = v at hx
      cases (show DR M (.v (.int k' n)) v from hx)
      exact Owes.here h hk (by simp [convert, run_underlying hus, run_underlying hut, Conv.intToInt]) (SVR.of rfl)
    · rename_i d e hd hsd he
      rw [he] at hx; rw [hd] at hut; rw [hsd] at hus
      split at hk
      · rename_i le hle
        split at hk
        · rename_i hled
          have hue := (ht e le hle).2
          rw [hled] at hue
          rw [show a.eval x = _ from hx]
          exact Owes.here h hk (run_conv_bytes (w := w) hus hue hut none 0 [] (fun h => absurd rfl h)) (SVR.of rfl)
        · exact hk.elim
      · exact hk.elim
    · rename_i d e hd hsd hnil
      rw [hd] at hut; rw [hsd] at hus
      split at hk
      · rename_i le l hle hel
        split at hk
        · rename_i hled
          obtain ⟨hin, hk⟩ := Tr.sat_need hk
          have hue := (ht e le hle).2
          rw [hled] at hue
          obtain ⟨A, c, xs, hv, _, hf, _, hA⟩ := elems_ok h hx hel hin
          have hxs := flat_bytes hf
          subst hxs
          rw [hv]
          refine Owes.here h hk (run_conv_bytes hus hue hut A c l fun hne => ?_) (SVR.of rfl)
          obtain ⟨ad, e, hc⟩ := hA hne
          exact ⟨ad, e, hc w rfl⟩
        · exact hk.elim
      · exact hk.elim
    · exact hk.elim
  · exact hk.elim

/-- an element value's cells -/
def EV.cells : EV → List CV
  | .c x => [x]
  | .agg l => l
def SV.cells : SV → Option (List CV)
  | .e (.c .any) => none
  | .e (.c .und) => none
  | .e x => some x.cells
  | .tup _ => none
theorem SVR.cells {x : SV} {v : Value} (h : SVR M β x v) {cs : List CV} (hc : x.cells = some cs) : CVs M β cs v.cells.toList := by
  unfold SV.cells at hc
  split at hc
  · cases hc
  · cases hc
  · rename_i y hy hu
    cases hc
    cases y with
    | c z =>
      have hz : z ≠ .any := fun e => hy (by rw [e])
      have hone : v.oneCell' = true ∧ v.cells = #[v] := by
        cases z with
        | any => exact absurd rfl hz
        | und => exact absurd rfl hu
        | d y => have := DR.one (show DR M y v from h); cases v <;> first | exact ⟨this, rfl⟩ | (simp [Value.oneCell'] at this)
        | nil => rw [show v = _ from h]; exact ⟨rfl, rfl⟩
        | nilp => rw [show v = _ from h]; exact ⟨rfl, rfl⟩
        | dp cs => obtain ⟨ad, us, e, _⟩ := (show CVR M β (.dp cs) v from h); rw [e]; exact ⟨rfl, rfl⟩
        | np i o => obtain ⟨b, _, e⟩ := (show CVR M β (.np i o) v from h); rw [e]; exact ⟨rfl, rfl⟩
        | rp i sz k o => obtain ⟨g, m, c, _, e⟩ := (show CVR M β (.rp i sz k o) v from h); rw [e]; exact ⟨rfl, rfl⟩
        | rv i sz o n => obtain ⟨g, m, c, d, _, e, _⟩ := (show CVR M β (.rv i sz o n) v from h); rw [e]; exact ⟨rfl, rfl⟩
        | mp i => obtain ⟨b, _, e⟩ := (show CVR M β (.mp i) v from h); rw [e]; exact ⟨rfl, rfl⟩
        | nilm => rw [show v = _ from h]; exact ⟨rfl, rfl⟩
        | kb b => rw [show v = _ from h]; exact ⟨rfl, rfl⟩
        | row i => obtain ⟨_, A, n, c, e⟩ := (show CVR M β (.row i) v from h); rw [e]; exact ⟨rfl, rfl⟩
        | cl i => obtain ⟨_, f, fa, fc, e⟩ := (show CVR M β (.cl i) v from h); rw [e]; exact ⟨rfl, rfl⟩
      rw [hone.2]
      exact .cons h hone.1 .nil
    | agg l => obtain ⟨vs, e, hcs⟩ := h; rw [e]; exact hcs
  · cases hc
end
end Go.Proofs.YtjebfbkigkjboaaGreatDoor.Sy

/- The calculus, eighth part: what is made: variables, structs, slices; what is stored. -/
namespace Go.Proofs.YtjebfbkigkjboaaGreatDoor.Sy
open Go.RowKit Kit

section
variable {P : Program} {tbl : Tbl} {w0 : Base} {w : World} {M0 M : Snap} {β : Plc} {σ : St} {a : Act} {K : Res → Prop}

theorem newVar_run (t : Nat) (v : Value) : (newVar t v).run P w = .ok ⟨w.heap.size, 0, none⟩ (w.alloc (.cells v.cells t)) := by simp [newVar, newRow]

/-- a new own block under the number s: whatever went under it is forgotten -/
def St.new (σ : St) (s : Nat) (o : Ob) : St := (σ.kill s).obj s o
theorem Rel.allocN (h : Rel w0 M0 M β σ a.tmps w) {T : TypeId} {cs : List CV} {vs : Array Value} (s : Nat) (hc : CVs M β cs vs.toList) :
    ∃ β', β' s = some (.inl w.heap.size) ∧ Rel w0 M0 M β' (σ.new s (.cells T (cs.map (CV.kill s)))) a.tmps (w.alloc (.cells vs T)) :=
  (h.kill s).alloc (T := T) (hc.kill (i := s) (β' := fun j => if j = s then none else β j) fun j p hj hp => by simp [hj, hp]) (i := s) (by simp)

def doAlloc (tbl : Tbl) (σ : St) (s t : Nat) : Tr Res :=
  match get tbl t with
  | some l =>
    match (SV.e (constE l.zero)).cells with
    | some cs => .ret (.e (.c (.np s 0)), newC σ.objs s (.cells t (cs.map (CV.kill s))))
    | none => .fail
  | none => .fail
theorem zero_run (ht : TblOk P tbl) {t : Nat} {l : Lay} (hl : get tbl t = some l) (W : World) : (zeroValue t).run P W = .ok l.zero W := by
  have hi := (ht _ _ hl).1
  cases e : P.info? t with
  | none => simp [e] at hi
  | some i => simp [e] at hi; simp [zeroValue, typeInfo, e, hi]
theorem doAlloc_ok (ht : TblOk P tbl) (h : Rel w0 M0 M β σ a.tmps w) {s t : Nat} (hk : (doAlloc tbl σ s t).sat K) : Owes P w0 M0 σ K a.tmps w (Instr.alloc t true (.tuple #[])) := by
  unfold doAlloc at hk
  split at hk
  · rename_i l hl
    split at hk
    · rename_i cs hc
      have hcv := SVR.cells (M := M) (β := β) (x := .e (constE l.zero)) (constE_ok M β l.zero) hc
      obtain ⟨β', hb, hrel⟩ := h.allocN (T := t) s hcv
      exact ⟨_, _, .pointer (some ⟨w.heap.size, 0, none⟩), _, hk, by simp [Instr.alloc, zero_run ht hl, newVar_run], M, β', hrel, _, hb, rfl⟩
    · exact hk.elim
  · exact hk.elim

def toD : CV → Option D
  | .d x => some x
  | .nil => some (.sl .bool [])
  | .kb b => some (.v (.bool b))
  | _ => none
def toDs : List CV → Option (List D)
  | [] => some []
  | c :: cs =>
    match toD c, toDs cs with
    | some x, some l => some (x :: l)
    | _, _ => none
theorem toD_ok {c : CV} {v : Value} (h : CVR M β c v) {x : D} (hx : toD c = some x) : DR M x v := by
  unfold toD at hx
  split at hx
  · cases hx; exact h
  · cases hx
    rw [show v = _ from h]
    exact DR.nil _
  · cases hx
    rw [show v = _ from h]
    exact .v rfl
  · cases hx
theorem toDs_ok {cs : List CV} {us : List Value} (h : CVs M β cs us) : ∀ {l : List D}, toDs cs = some l → Cells M l us := by
  induction h with
  | nil => intro l hl; cases hl; exact .nil
  | cons h1 _ _ ih =>
    intro l hl
    simp only [toDs] at hl
    split at hl
    · rename_i x r hx hr
      cases hl
      exact .cons (toD_ok h1 hx) (ih hr)
    · cases hl

/-- a variable that is boxed: laid still at once, unless it is written later ('mu') -/
def doBox (σ : St) (mu : Bool) (s t : Nat) (x : Operand) : Tr Res :=
  match (ev σ x).cells with
  | some cs =>
    match mu, toDs cs with
    | false, some l => .ret (.e (.c (.dp l)), none)
    | _, _ => .ret (.e (.c (.np s 0)), newC σ.objs s (.cells t (cs.map (CV.kill s))))
  | none => .fail
theorem doBox_ok (h : Rel w0 M0 M β σ a.tmps w) {mu : Bool} {s t : Nat} {x : Operand} (hk : (doBox σ mu s t x).sat K) : Owes P w0 M0 σ K a.tmps w (Instr.box t (a.eval x)) := by
  unfold doBox at hk
  split at hk
  · rename_i cs hc
    have hcv := (ev_ok h x).cells hc
    split at hk
    · rename_i l hl
      obtain ⟨M', hm, hp, hrel⟩ := h.laid (T := t) (toDs_ok hcv hl)
      exact ⟨_, _, .pointer (some ⟨w.heap.size, 0, none⟩), _, hk, by simp [Instr.box, newVar_run], M', β, hrel, hp⟩
    · obtain ⟨β', hb, hrel⟩ := h.allocN (T := t) s hcv
      exact ⟨_, _, .pointer (some ⟨w.heap.size, 0, none⟩), _, hk, by simp [Instr.box, newVar_run], M, β', hrel, _, hb, rfl⟩
  · exact hk.elim

/-- cells written one after another -/
def setAll (cs : List CV) (off : Nat) : List CV → List CV
  | [] => cs
  | d :: ds => setAll (cs.set off d) (off + 1) ds
theorem CVs.set {cs : List CV} {us : List Value} (h : CVs M β cs us) {x : CV} {u : Value} (hx : CVR M β x u) (h1 : u.oneCell' = true) (n : Nat) : CVs M β (cs.set n x) (us.set n u) := by
  induction h generalizing n with
  | nil => simp; exact .nil
  | cons h2 h3 h4 ih => cases n with
    | zero => exact .cons hx h1 h4
    | succ n => exact .cons h2 h3 (ih n)
theorem setAll_ok {ds : List CV} {vs : List Value} (hd : CVs M β ds vs) : ∀ {cs : List CV} {us : Array Value} (off k : Nat), CVs M β cs us.toList →
    CVs M β (setAll cs (off + k) ds) ((vs.zipIdx k).foldl (fun (r : Array Value) (p : Value × Nat) => r.setIfInBounds (off + p.2) p.1) us).toList := by
  induction hd with
  | nil => intro cs us off k h; exact h
  | @cons x u ds vs h1 h2 _ ih =>
    intro cs us off k h
    simp only [setAll, List.zipIdx_cons, List.foldl_cons]
    rw [Nat.add_assoc]
    exact ih off (k + 1) (by rw [Array.toList_setIfInBounds]; exact h.set h1 h2 _)

def fillC (σ : St) (pl : Nat → Option (Nat × Nat)) (cs : List CV) : List (Nat × Operand) → Option (List CV)
  | [] => some cs
  | (i, x) :: rest =>
    match pl i, (ev σ x).cells with
    | some (off, size), some ds => if ds.length = size ∧ off + size ≤ cs.length then fillC σ pl (setAll cs off ds) rest else none
    | _, _ => none
theorem fillC_ok (h : Rel w0 M0 M β σ a.tmps w) {pl : Nat → Option (Nat × Nat)} : ∀ {parts : List (Nat × Operand)} {cs cs' : List CV} {us : Array Value}, CVs M β cs us.toList → fillC σ pl cs parts = some cs' →
    ∃ us', Instr.fill pl us (parts.map fun (i, x) => (i, a.eval x)) = some us' ∧ CVs M β cs' us'.toList := by
  intro parts
  induction parts with
  | nil => intro cs cs' us hc hf; cases hf; exact ⟨us, rfl, hc⟩
  | cons p rest ih =>
    obtain ⟨i, x⟩ := p
    intro cs cs' us hc hf
    simp only [fillC] at hf
    split at hf
    · rename_i off size ds hp hd
      split at hf
      · rename_i hz
        have hds := (ev_ok h x).cells hd
        have hl := hds.length
        have hcl := hc.length
        have hs := setAll_ok hds off 0 hc
        obtain ⟨us', hfill, hcv⟩ := ih hs hf
        refine ⟨us', ?_, hcv⟩
        simp only [List.map_cons, Instr.fill, hp]
        have h1 : (a.eval x).cells.size = size := by rw [← hz.1, ← hl]; simp
        have h2 : ¬ (off + size > us.size) := by simp at hcl; omega
        rw [if_neg (by simp [h1]; omega)]
        rw [← hfill]
        congr 1
        rw [← Array.foldl_toList, Array.toList_zipIdx]
      · cases hf
    · cases hf

def placesOf (tbl : Tbl) : List Field → Option (List (Nat × Nat))
  | [] => some []
  | f :: fs =>
    match get tbl f.type, placesOf tbl fs with
    | some l, some r => some ((f.offset, l.size) :: r)
    | _, _ => none
theorem placesOf_ok (ht : TblOk P tbl) : ∀ {fs : List Field} {pl : List (Nat × Nat)}, placesOf tbl fs = some pl → fs.mapM (fun f => (P.info? f.type).map fun i => (f.offset, i.size)) = some pl := by
  intro fs
  induction fs with
  | nil => intro pl h; cases h; rfl
  | cons f fs ih =>
    intro pl h
    simp only [placesOf] at h
    split at h
    · rename_i l r hl hr
      cases h
      have hi := (ht _ _ hl).1
      cases e : P.info? f.type with
      | none => simp [e] at hi
      | some i => simp [e] at hi; simp [List.mapM_cons, e, ih hr, hi]
    · cases h

def nth? (pl : List (Nat × Nat)) : Nat → Option (Nat × Nat) := fun i => pl[i]?
def doBuild (tbl : Tbl) (σ : St) (t : Nat) (parts : List (Nat × Operand)) : Tr Res :=
  match get tbl t with
  | some l =>
    match l.desc, (SV.e (constE l.zero)).cells with
    | .struct fs, some z =>
      match placesOf tbl fs.toList with
      | some pl =>
        match fillC σ (nth? pl) z parts with
        | some cs => .ret (.e (.agg cs), none)
        | none => .fail
      | none => .fail
    | .array _ e, some z =>
      match get tbl e with
      | some le =>
        match fillC σ (fun i => some (i * le.size, le.size)) z parts with
        | some cs => .ret (.e (.agg cs), none)
        | none => .fail
      | none => .fail
    | _, _ => .fail
  | none => .fail
theorem doBuild_ok (ht : TblOk P tbl) (h : Rel w0 M0 M β σ a.tmps w) {t : Nat} {parts : Array (Nat × Operand)} (hk : (doBuild tbl σ t parts.toList).sat K) : Owes P w0 M0 σ K a.tmps w (Instr.build t (parts.map fun (i, x) => (i, a.eval x))) := by
  unfold doBuild at hk
  split at hk
  · rename_i l hl
    obtain ⟨hi, hu⟩ := ht t l hl
    split at hk
    · rename_i fs z hd hz
      rw [hd] at hu
      split at hk
      · rename_i pl hpl
        split at hk
        · rename_i cs hcs
          have hzc := SVR.cells (M := M) (β := β) (x := .e (constE l.zero)) (constE_ok M β l.zero) hz
          obtain ⟨us, hfill, hcv⟩ := fillC_ok h hzc hcs
          refine Owes.here h hk (v := .agg us) ?_ ⟨us, rfl, hcv⟩
          refine run_build w t _ us ?_
          unfold Program.built
          cases e : P.info? t with
          | none => simp [e] at hi
          | some i =>
            simp [e] at hi
            rw [hu]
            simp only [hi, placesOf_ok ht hpl]
            rw [← hfill]
            simp only [List.getElem?_toArray, Array.toList_map]
            rfl
        · exact hk.elim
      · exact hk.elim
    · rename_i len e z hd hz
      rw [hd] at hu
      split at hk
      · rename_i le hle
        split at hk
        · rename_i cs hcs
          have hzc := SVR.cells (M := M) (β := β) (x := .e (constE l.zero)) (constE_ok M β l.zero) hz
          obtain ⟨us, hfill, hcv⟩ := fillC_ok h hzc hcs
          obtain ⟨hi2, _⟩ := ht _ _ hle
          refine Owes.here h hk (v := .agg us) ?_ ⟨us, rfl, hcv⟩
          refine run_build w t _ us ?_
          unfold Program.built
          cases e1 : P.info? t with
          | none => simp [e1] at hi
          | some i =>
            cases e2 : P.info? e with
            | none => simp [e2] at hi2
            | some ie =>
              simp [e1] at hi
              simp [e2] at hi2
              rw [hu]
              simp only [e2, hi, hi2]
              rw [← hfill]
              simp only [Array.toList_map]
        · exact hk.elim
      · exact hk.elim
    · exact hk.elim
  · exact hk.elim

/-- n times the same cells -/
def rep (z : List CV) : Nat → List CV
  | 0 => []
  | n + 1 => z ++ rep z n
/-- a datum out of its cells -/
def joinInt (k : IntKind) : List D → Option Int
  | [.v (.int k' n)] => if k' = k then some n else none
  | _ => none
def joinBool : List D → Option Bool
  | [.v (.bool b)] => some b
  | _ => none
def joinStr : List D → Option ByteArray
  | [.v (.string b)] => some b
  | _ => none
def joinSl (t : Ty) : List D → Option (List t.El)
  | [.sl t' l] => if h : t' = t then some (h ▸ l) else match l with | [] => some [] | _ => none
  | _ => none
def join : (t : Ty) → List D → Option t.El
  | .int k, e => joinInt k e
  | .bool, e => joinBool e
  | .str, e => joinStr e
  | .sl t, e => joinSl t e
  | .pair a b, ds =>
    match join a (ds.take a.sz), join b (ds.drop a.sz) with
    | some x, some y => some (x, y)
    | _, _ => none
theorem DR.empty {t t' : Ty} {v : Value} (h : DR M (.sl t []) v) : DR M (.sl t' []) v := by
  obtain ⟨A, n, c, rfl⟩ := h.slice
  obtain ⟨hn, hc, hm, _⟩ := Flat.of_dr h
  subst hn
  exact Flat.to_dr (t := t') (l := []) .nil hc hm (fun h => absurd rfl h)
theorem join_ok : ∀ (t : Ty) {e : List D} {us : List Value} {x : t.El}, join t e = some x → Cells M e us → Cells M (split t x) us := by
  intro t
  induction t with
  | int k =>
    intro e us x h hc
    simp only [join] at h
    unfold joinInt at h
    split at h
    · split at h
      · rename_i hk; cases h; subst hk; exact hc
      · cases h
    · cases h
  | bool =>
    intro e us x h hc
    simp only [join] at h
    unfold joinBool at h
    split at h
    · cases h; exact hc
    · cases h
  | str =>
    intro e us x h hc
    simp only [join] at h
    unfold joinStr at h
    split at h
    · cases h; exact hc
    · cases h
  | sl t ih =>
    intro e us x h hc
    simp only [join] at h
    unfold joinSl at h
    split at h
    · split at h
      · rename_i e; subst e; cases h; exact hc
      · split at h
        · cases h
          cases hc with
          | cons h1 h2 => exact .cons h1.empty h2
        · cases h
    · cases h
  | pair a b iha ihb =>
    intro e us x h hc
    simp only [join] at h
    split at h
    · rename_i y z h1 h2
      cases h
      have := (iha h1 (hc.take a.sz)).append (ihb h2 (hc.drop a.sz))
      rwa [List.take_append_drop] at this
    · cases h
def chunk (t : Ty) : Nat → List CV → Option (List t.El)
  | 0, [] => some []
  | 0, _ => none
  | n + 1, cs =>
    match (toDs (cs.take t.sz)).bind (join t), chunk t n (cs.drop t.sz) with
    | some e, some es => some (e :: es)
    | _, _ => none
theorem chunk_ok {t : Ty} : ∀ {n : Nat} {cs : List CV} {us : List Value} {l : List t.El}, CVs M β cs us → chunk t n cs = some l → l.length = n ∧ Flat M t.sz (rows t l) us := by
  intro n
  induction n with
  | zero =>
    intro cs us es hc h
    cases cs with
    | nil => cases hc; cases h; exact ⟨rfl, .nil⟩
    | cons c cs => cases h
  | succ n ih =>
    intro cs us es hc h
    simp only [chunk] at h
    split at h
    · rename_i e r he hr
      cases h
      obtain ⟨h1, h2⟩ := ih (hc.drop t.sz) hr
      refine ⟨by simp [h1], ?_⟩
      cases hd : toDs (cs.take t.sz) with
      | none => simp [hd] at he
      | some ds =>
        simp [hd] at he
        have := Flat.cons (join_ok t he (toDs_ok (hc.take t.sz) hd)) (split_len t e) h2
        rwa [List.take_append_drop] at this
    · cases h
theorem CVs.append {cs ds : List CV} {us vs : List Value} (h : CVs M β cs us) (h' : CVs M β ds vs) : CVs M β (cs ++ ds) (us ++ vs) := by
  induction h with
  | nil => exact h'
  | cons h1 h2 _ ih => exact .cons h1 h2 ih
theorem rep_ok {z : List CV} {zs : Array Value} (hz : CVs M β z zs.toList) : ∀ n : Nat, CVs M β (rep z n) ((Array.range (n * zs.size)).map (zs[· % zs.size]!)).toList := by
  intro n
  induction n with
  | zero => simp [rep]; exact .nil
  | succ n ih =>
    have e : ((Array.range ((n + 1) * zs.size)).map (zs[· % zs.size]!)).toList = zs.toList ++ ((Array.range (n * zs.size)).map (zs[· % zs.size]!)).toList := by
      apply List.ext_getElem
      · simp [Nat.add_mul]; omega
      · intro i h1 h2
        simp only [Array.toList_map, Array.toList_range, List.getElem_map, List.getElem_range]
        by_cases hi : i < zs.size
        · rw [List.getElem_append_left (by simpa using hi)]
          rw [Nat.mod_eq_of_lt hi]
          simp [hi]
        · rw [List.getElem_append_right (by simp; omega)]
          simp only [List.getElem_map, List.getElem_range, Array.length_toList]
          rw [Nat.mod_eq_sub_mod (by omega)]
    rw [e]
    exact hz.append ih

theorem ownBlock_nil : (Value.slice none 0 0).ownBlock = none := rfl
/-- a new row of the call's own -/
theorem Rel.newRow (h : Rel w0 M0 M β σ a.tmps w) (s : Nat) {n : Nat} {t : Ty} {T : TypeId} {l : List t.El} {us : Array Value} (hf : Flat M t.sz (rows t l) us.toList) (hn : l.length = n) (hm : n ≤ maxLen) :
    ∃ β', CVR M β' (.row s) (.slice (some ⟨w.heap.size, 0, none⟩) n n) ∧ Rel w0 M0 M β' (σ.new s (.row t T l)) a.tmps (w.alloc (.cells us T)) := by
  have hs : us.size = n * t.sz := by have := hf.length; rw [rows_len] at this; simp at this; rw [this, hn]
  have hown := World.ownsRow_lit (base := 0) (e := T) (size := t.sz) w us n (Nat.zero_le _) hm hs
  obtain ⟨β', hb, hr⟩ := h.grown (i := none) (v := .slice none 0 0) (v' := .slice (some ⟨w.heap.size, 0, none⟩) n n) (by simp) (fun _ => rfl) (World.grownBy_alloc w _ _) (.inr rfl) hn.symm hown hf (j := s)
  exact ⟨β', ⟨hb, _, _, _, rfl⟩, hr⟩
theorem stay_kill {β β' : Plc} {s : Nat} (h : ∀ k p, k ≠ s → (∀ i', (none : Option Nat) = some i' → k ≠ i') → β k = some p → β' k = some p) : ∀ j p, j ≠ s → β j = some p → β' j = some p := fun j p hj hp => h j p hj (fun _ e => by cases e) hp
theorem Rel.newVec (h : Rel w0 M0 M β σ a.tmps w) (s : Nat) {n : Nat} {T : TypeId} {l : List CV} {us : Array Value} (hf : CVs M β l us.toList) (hn : l.length = n) (hm : n ≤ maxLen) :
    ∃ β', CVR M β' (.row s) (.slice (some ⟨w.heap.size, 0, none⟩) n n) ∧ Rel w0 M0 M β' (σ.new s (.vec T n (l.map (CV.kill s)))) a.tmps (w.alloc (.cells us T)) := by
  have hs : us.size = n * 1 := by have := hf.length; simp at this; omega
  have hown := World.ownsRow_lit (base := 0) (e := T) (size := 1) w us n (Nat.zero_le _) hm hs
  obtain ⟨β', hb, hr⟩ := h.grownO (i := none) (v := .slice none 0 0) (v' := .slice (some ⟨w.heap.size, 0, none⟩) n n) (by simp) (fun _ => rfl) (World.grownBy_alloc w _ _) (.inr rfl) (.inr hown) (j := s) (o := .vec T n (l.map (CV.kill s)))
    fun β' hst => ⟨us.toList, by simpa [hn] using hown, hf.kill (stay_kill hst), Nat.le_refl _⟩
  exact ⟨β', ⟨hb, _, _, _, rfl⟩, hr⟩
/-- what a function value captures -/
def capOne : SV → Option CV
  | .e (.c .any) => none
  | .e (.c .und) => none
  | .e (.c y) => some y
  | _ => none
def capsOf (σ : St) : List Operand → Option (List CV)
  | [] => some []
  | x :: r =>
    match capOne (ev σ x), capsOf σ r with
    | some c, some l => some (c :: l)
    | _, _ => none
theorem capOne_ok {x : SV} {v : Value} (h : SVR M β x v) {c : CV} (hc : capOne x = some c) : CVR M β c v ∧ v.oneCell' = true := by
  unfold capOne at hc
  split at hc
  · cases hc
  · cases hc
  · rename_i y h1 h2
    cases hc
    refine ⟨h, ?_⟩
    have hc := SVR.cells (M := M) (β := β) (x := .e (.c c)) h (cs := [c]) (by
      unfold SV.cells
      split
      · rename_i e; cases e; exact absurd rfl h1
      · rename_i e; cases e; exact absurd rfl h2
      · rename_i e; cases e; rfl
      · rename_i e; cases e)
    cases c with
    | any => exact absurd rfl h1
    | und => exact absurd rfl h2
    | d y => exact DR.one (show DR M y v from h)
    | nil => rw [show v = _ from h]; rfl
    | nilp => rw [show v = _ from h]; rfl
    | dp cs => obtain ⟨ad, us, e, _⟩ := (show CVR M β (.dp cs) v from h); rw [e]; rfl
    | np i o => obtain ⟨b, _, e⟩ := (show CVR M β (.np i o) v from h); rw [e]; rfl
    | rp i sz k o => obtain ⟨g, m, c, _, e⟩ := (show CVR M β (.rp i sz k o) v from h); rw [e]; rfl
    | rv i sz o n => obtain ⟨g, m, c, d, _, e, _⟩ := (show CVR M β (.rv i sz o n) v from h); rw [e]; rfl
    | mp i => obtain ⟨b, _, e⟩ := (show CVR M β (.mp i) v from h); rw [e]; rfl
    | nilm => rw [show v = _ from h]; rfl
    | kb b => rw [show v = _ from h]; rfl
    | row i => obtain ⟨_, A, n, c, e⟩ := (show CVR M β (.row i) v from h); rw [e]; rfl
    | cl i => obtain ⟨_, f, fa, fc, e⟩ := (show CVR M β (.cl i) v from h); rw [e]; rfl
  · cases hc
theorem capsOf_ok (h : Rel w0 M0 M β σ a.tmps w) : ∀ {l : List Operand} {cs : List CV}, capsOf σ l = some cs → CVs M β cs (l.map a.eval) := by
  intro l
  induction l with
  | nil => intro cs hc; cases hc; exact .nil
  | cons x r ih =>
    intro cs hc
    simp only [capsOf] at hc
    split at hc
    · rename_i c l h1 h2
      cases hc
      obtain ⟨h3, h4⟩ := capOne_ok (ev_ok h x) h1
      exact .cons h3 h4 (ih h2)
    · cases hc
def doFunc (σ : St) (s f : Nat) (caps : List Operand) : Tr Res :=
  match capsOf σ caps with
  | some cs => .ret (.e (.c (.cl s)), newC σ.objs s (.fn f (cs.map (CV.kill s))))
  | none => .fail
theorem doFunc_ok (h : Rel w0 M0 M β σ a.tmps w) {s f : Nat} {caps : Array Operand} (hk : (doFunc σ s f caps.toList).sat K) : Owes P w0 M0 σ K a.tmps w (Instr.makeFunc (.func f) #[] (caps.map a.eval)) := by
  unfold doFunc at hk
  split at hk
  · rename_i cs hcs
    have hc := capsOf_ok h hcs
    obtain ⟨β', hb, hr⟩ := h.grownO (i := none) (v := .slice none 0 0) (v' := .func (.func f) #[] (caps.map a.eval)) (by simp) (fun _ => rfl) (World.grownBy.refl w _) (.inl rfl) (n := 0) (T := 0) (sz := 0) (xs := []) (.inl rfl) (j := s) (o := .fn f (cs.map (CV.kill s)))
      fun β' hst => ⟨caps.map a.eval, rfl, by simpa using hc.kill (stay_kill hst)⟩
    exact ⟨_, _, .func (.func f) #[] (caps.map a.eval), w, hk, rfl, M, β', hr, hb, _, _, _, rfl⟩
  · exact hk.elim

def doBuildSlice (tbl : Tbl) (σ : St) (mu : Bool) (s t len : Nat) (parts : List (Nat × Operand)) : Tr Res :=
  match get tbl t with
  | some l =>
    match l.desc with
    | .slice e =>
      match get tbl e with
      | some le =>
        match (SV.e (constE le.zero)).cells, le.ty with
        | some z, some t =>
          if z.length = le.size ∧ t.sz = le.size ∧ len * le.size ≤ 16777216 then
            match fillC σ (fun i => some (i * le.size, le.size)) (rep z len) parts with
            | some cs =>
              match chunk t len cs with
              | some es => if mu then .ret (.e (.c (.row s)), newC σ.objs s (.row t e es)) else .ret (SV.dat (.sl t es), none)
              | none => .fail
            | none => .fail
          else .fail
        | some z, none =>
          if z.length = le.size ∧ le.size = 1 ∧ len ≤ 16777216 then
            match fillC σ (fun i => some (i * le.size, le.size)) (rep z len) parts with
            | some cs => if cs.length = len then .ret (.e (.c (.row s)), newC σ.objs s (.vec e len (cs.map (CV.kill s)))) else .fail
            | none => .fail
          else .fail
        | _, _ => .fail
      | none => .fail
    | _ => .fail
  | none => .fail
theorem doBuildSlice_ok (ht : TblOk P tbl) (h : Rel w0 M0 M β σ a.tmps w) {mu : Bool} {s t len : Nat} {parts : Array (Nat × Operand)} (hk : (doBuildSlice tbl σ mu s t len parts.toList).sat K) :
    Owes P w0 M0 σ K a.tmps w (Instr.buildSlice t len (parts.map fun (i, x) => (i, a.eval x))) := by
  unfold doBuildSlice at hk
  split at hk
  · rename_i l hl
    have hu := (ht t l hl).2
    split at hk
    · rename_i e hd
      rw [hd] at hu
      split at hk
      · rename_i le hle
        split at hk
        · rename_i z ty hz hty
          split at hk
          · rename_i hcond
            obtain ⟨hzl, htz, hbig⟩ := hcond
            have hz0 : le.size ≠ 0 := by have := ty.sz_pos; omega
            split at hk
            · rename_i cs hcs
              split at hk
              · rename_i es hes
                have hzc := SVR.cells (M := M) (β := β) (x := .e (constE le.zero)) (constE_ok M β le.zero) hz
                have hzs : le.zero.cells.size = le.size := by have := hzc.length; simp at this; omega
                have hrep := rep_ok hzc len
                obtain ⟨us, hfill, hcv⟩ := fillC_ok h hrep hcs
                obtain ⟨hn, hf⟩ := chunk_ok hcv hes
                have hml : len ≤ maxLen := by
                  have : len ≤ len * le.size := Nat.le_mul_of_pos_right _ (by omega)
                  simp only [maxLen]; omega
                have hrun : (Instr.buildSlice t len (parts.map fun (i, x) => (i, a.eval x))).run P w = .ok (.slice (some ⟨w.heap.size, 0, none⟩) len len) (w.alloc (.cells us e)) := by
                  have hbig' : ¬ (16777216 < len * le.size) := by omega
                  rw [hzs] at hfill
                  unfold Instr.buildSlice
                  by_cases h0 : len * le.size = 0
                  · have hl0 : len = 0 := by
                      rcases Nat.mul_eq_zero.1 h0 with h | h
                      · exact h
                      · omega
                    subst hl0
                    simp [Array.range_zero'] at hfill
                    simp [run_underlying hu, sizeOf_ok ht hle w, newRow, Array.range_zero', hfill]
                  · simp [run_underlying hu, sizeOf_ok ht hle w, hbig', zero_run ht hle w, newRow, h0, hzs, hfill]
                split at hk
                · obtain ⟨β', hr, hrel⟩ := h.newRow (T := e) s hf hn hml
                  exact ⟨_, _, .slice (some ⟨w.heap.size, 0, none⟩) len len, _, hk, hrun, M, β', hrel, hr⟩
                · obtain ⟨M', hm, hd, hrel⟩ := h.laidS (T := e) hf hn hml
                  exact ⟨_, _, .slice (some ⟨w.heap.size, 0, none⟩) len len, _, hk, hrun, M', β, hrel, hd⟩
              · exact hk.elim
            · exact hk.elim
          · exact hk.elim
        · rename_i z hz hty
          split at hk
          · rename_i hcond
            obtain ⟨hzl, hs1, hbig⟩ := hcond
            split at hk
            · rename_i cs hcs
              split at hk
              · rename_i hlen
                have hzc := SVR.cells (M := M) (β := β) (x := .e (constE le.zero)) (constE_ok M β le.zero) hz
                have hzs : le.zero.cells.size = le.size := by have := hzc.length; simp at this; omega
                have hrep := rep_ok hzc len
                obtain ⟨us, hfill, hcv⟩ := fillC_ok h hrep hcs
                have hml : len ≤ maxLen := by simp only [maxLen]; omega
                have hrun : (Instr.buildSlice t len (parts.map fun (i, x) => (i, a.eval x))).run P w = .ok (.slice (some ⟨w.heap.size, 0, none⟩) len len) (w.alloc (.cells us e)) := by
                  have hbig' : ¬ (16777216 < len * le.size) := by rw [hs1]; omega
                  rw [hzs] at hfill
                  unfold Instr.buildSlice
                  by_cases h0 : len * le.size = 0
                  · have hl0 : len = 0 := by
                      rcases Nat.mul_eq_zero.1 h0 with h | h
                      · exact h
                      · omega
                    subst hl0
                    simp [Array.range_zero'] at hfill
                    simp [run_underlying hu, sizeOf_ok ht hle w, newRow, Array.range_zero', hfill]
                  · simp [run_underlying hu, sizeOf_ok ht hle w, hbig', zero_run ht hle w, newRow, h0, hzs, hfill]
                obtain ⟨β', hr, hrel⟩ := h.newVec (T := e) s hcv hlen hml
                exact ⟨_, _, .slice (some ⟨w.heap.size, 0, none⟩) len len, _, hk, hrun, M, β', hrel, hr⟩
              · exact hk.elim
            · exact hk.elim
          · exact hk.elim
        · exact hk.elim
      · exact hk.elim
    · exact hk.elim
  · exact hk.elim

def sameOp : Operand → Operand → Bool
  | .tmp a, .tmp b => a == b
  | .const (.int _ a), .const (.int _ b) => a == b
  | _, _ => false
def doMake (tbl : Tbl) (σ : St) (s t : Nat) (n c : Operand) : Tr Res :=
  match get tbl t, (ev σ n).int, (ev σ c).int with
  | some l, some x, some y =>
    match l.desc with
    | .slice e =>
      match get tbl e with
      | some le =>
        match le.ty with
        | some ty =>
          match (toD (constC le.zero)).bind fun z => join ty [z] with
          | some z =>
            if ty.sz = 1 ∧ le.size = 1 ∧ le.zero.oneCell' = true ∧ 1 ≤ le.bytes then
              bif sameOp n c then Tr.need (decide (0 ≤ x ∧ x = y ∧ le.bytes * x ≤ 281474976710656)) (.ret (.e (.c (.row s)), newC σ.objs s (.row ty e (List.replicate x.toNat z))))
              else Tr.need (decide (0 ≤ x ∧ x ≤ y ∧ le.bytes * y ≤ 281474976710656)) (.ret (.e (.c (.row s)), newC σ.objs s (.row ty e (List.replicate x.toNat z))))
            else .fail
          | none => .fail
        | none => .fail
      | none => .fail
    | _ => .fail
  | _, _, _ => .fail
theorem cells_one {v : Value} (h : v.oneCell' = true) : v.cells = #[v] := by cases v <;> first | rfl | (simp [Value.oneCell'] at h)
theorem flat_replicate {t : Ty} {x : t.El} {u : Value} (h : Cells M (split t x) [u]) (h1 : t.sz = 1) : ∀ n : Nat, Flat M 1 (rows t (List.replicate n x)) (List.replicate n u)
  | 0 => .nil
  | n + 1 => .cons (vs := [u]) h (by rw [split_len, h1]) (flat_replicate h h1 n)
theorem doMake_ok (ht : TblOk P tbl) (h : Rel w0 M0 M β σ a.tmps w) {s t : Nat} {n c : Operand} (hk : (doMake tbl σ s t n c).sat K) : Owes P w0 M0 σ K a.tmps w (Instr.makeSlice t (a.eval n) (a.eval c)) := by
  unfold doMake at hk
  split at hk
  · rename_i l x y hl hx hy
    have hu := (ht t l hl).2
    obtain ⟨k1, e1⟩ := (ev_ok h n).int hx
    obtain ⟨k2, e2⟩ := (ev_ok h c).int hy
    split at hk
    · rename_i e hd
      rw [hd] at hu
      split at hk
      · rename_i le hle
        split at hk
        · rename_i ty hty
          split at hk
          · rename_i z hz'
            split at hk
            · rename_i hcond
              obtain ⟨hty1, hs1, hone, hby⟩ := hcond
              obtain ⟨zd, hz, hzj⟩ := Option.bind_eq_some_iff.1 hz'
              have hzc := cells_one hone
              have hsplit : decide (0 ≤ x ∧ x ≤ y ∧ (le.bytes : Int) * y ≤ 281474976710656) = true ∧ K (.e (.c (.row s)), newC σ.objs s (.row ty e (List.replicate x.toNat z))) := by
                cases hso : sameOp n c with
                | true =>
                  rw [hso] at hk
                  obtain ⟨hc, hk'⟩ := Tr.sat_need hk
                  simp only [decide_eq_true_eq] at hc
                  obtain ⟨h0, rfl, hb⟩ := hc
                  exact ⟨by simp only [decide_eq_true_eq]; omega, hk'⟩
                | false => rw [hso] at hk; exact Tr.sat_need hk
              obtain ⟨hc, hk'⟩ := hsplit
              clear hk
              simp only [decide_eq_true_eq] at hc
              obtain ⟨h0, hxy, hb⟩ := hc
              have hi := (ht _ _ hle).1
              cases ei : P.info? e with
              | none => simp [ei] at hi
              | some i =>
                simp [ei] at hi
                obtain ⟨hiz, his, hib⟩ := hi
                have hy0 : 0 ≤ y := by omega
                have hx63 : y ≤ 281474976710656 := by
                  have h1 : y ≤ (le.bytes : Int) * y := by
                    have : (1 : Int) ≤ le.bytes := by omega
                    have := Int.mul_le_mul_of_nonneg_right this hy0
                    omega
                  omega
                have hrun := run_make (P := P) w t e i le.zero hu ei hiz k1 k2 x y h0 hxy (by rw [hib]; exact hb) (by omega)
                have hd1 : DR M zd le.zero := toD_ok (constC_ok M β le.zero) hz
                have hcells : (madeCells le.zero.cells (y.toNat * i.size)).toList = List.replicate y.toNat le.zero := by
                  rw [hzc, his, hs1, Nat.mul_one]
                  exact toList_madeCells_one _ _
                have hf : Flat M ty.sz (rows ty (List.replicate x.toNat z)) (List.replicate x.toNat le.zero) := by
                  rw [hty1]; exact flat_replicate (join_ok ty hzj (.cons hd1 .nil)) hty1 _
                have hown : (w.alloc (.cells (madeCells le.zero.cells (y.toNat * i.size)) e)).ownsRow 0 e ty.sz (.slice (some ⟨w.heap.size, 0, none⟩) x.toNat y.toNat) x.toNat (List.replicate x.toNat le.zero) := by
                  refine ⟨by simp [hty1], .inr ⟨w.heap.size, y.toNat, _, rfl, Nat.zero_le _, heap_alloc_new w _, by omega, by simp only [maxLen]; omega, ?_, ?_⟩⟩
                  · have := congrArg List.length hcells; simp at this; rw [hty1]; simp [this]
                  · rw [hcells, hty1, List.take_replicate]; congr 1; omega
                obtain ⟨β', hb', hrel⟩ := h.grown (i := none) (v := .slice none 0 0) (v' := .slice (some ⟨w.heap.size, 0, none⟩) x.toNat y.toNat) (by simp) (fun _ => rfl) (World.grownBy_alloc w _ _) (.inr rfl) (t := ty) (T := e) (l := List.replicate x.toNat z) (by simp) hown hf (j := s)
                exact ⟨_, _, .slice (some ⟨w.heap.size, 0, none⟩) x.toNat y.toNat, _, hk', by rw [e1, e2]; exact hrun, M, β', hrel, hb', _, _, _, rfl⟩
            · exact hk.elim
          · exact hk.elim
        · exact hk.elim
      · exact hk.elim
    · exact hk.elim
  · exact hk.elim
end
end Go.Proofs.YtjebfbkigkjboaaGreatDoor.Sy

/- The calculus, ninth part: stores, append, copy. -/
namespace Go.Proofs.YtjebfbkigkjboaaGreatDoor.Sy
open Go.RowKit Kit

section
variable {P : Program} {tbl : Tbl} {w0 : Base} {w : World} {M0 M : Snap} {β : Plc} {σ : St} {a : Act}

def splice {α : Type} (cs : List α) (off : Nat) (ds : List α) : List α := cs.take off ++ ds ++ cs.drop (off + ds.length)

theorem run_storeVar_ok {t s : Nat} {v : Value} (hs : (sizeOf t).run P w = .ok s w) (hv : v.cells.size = s) {g off : Nat} {T : TypeId} {cur : Array Value} (hg : w.heap[g]? = some (.cells cur T (0, 0)))
    (hfit : off + s ≤ cur.size) (h1 : ∀ u ∈ v.cells.toList, u.oneCell' = true) :
    (storeVar t ⟨g, off, none⟩ v).run P w = .ok () (w.setRow g (splice cur.toList off v.cells.toList).toArray) := by
  have hst := run_storeCells_at P g off T v.cells.toList 0 cur w hg (by simpa [hv] using hfit) h1
  simp only [Nat.add_zero] at hst
  simp [storeVar, hs, hv, hst, splice]

theorem CVs.one {cs : List CV} {us : List Value} (h : CVs M β cs us) : ∀ u ∈ us, u.oneCell' = true := by
  induction h with
  | nil => simp
  | cons _ h2 _ ih =>
    intro u hu
    rcases List.mem_cons.1 hu with rfl | hu
    · exact h2
    · exact ih u hu
theorem CVs.splice {cs ds : List CV} {us vs : List Value} (h : CVs M β cs us) (h' : CVs M β ds vs) (off : Nat) : CVs M β (splice cs off ds) (splice us off vs) := by
  unfold Sy.splice
  rw [h'.length]
  exact ((h.take off).append h').append (h.drop _)

/-- own row i is written in place: its slice is as it was -/
theorem Rel.rowWritten (h : Rel w0 M0 M β σ a.tmps w) {i : Nat} {t : Ty} {T : TypeId} {es es' : List t.El} (ho : get σ.objs i = some (.row t T es)) {g m cap : Nat} (hb : β i = some (.inr (.slice (some ⟨g, 0, none⟩) m cap)))
    {xs' : List Value} (hf : Flat M t.sz (rows t es') xs') (hl : es'.length = es.length) {cur' : Array Value} {cur : Array Value} (hcur : w.heap[g]? = some (.cells cur T (0, 0))) (hs : cur'.size = cur.size) (ht : cur'.toList.take (es.length * t.sz) = xs') :
    Rel w0 M0 M β (σ.obj i (.row t T es')) a.tmps (w.setRow g cur') := by
  obtain ⟨hMb, hB, hlt⟩ := h.apart i _ g hb rfl
  have hoth : ∀ k, k ≠ g → (w.setRow g cur').heap[k]? = w.heap[k]? := fun k hk => setRow_other w g k cur' hk
  refine { h with below := ?_, snap := ?_, apart := ?_, objs := ?_ }
  · exact h.below.row hB
  · intro k o hk
    rw [hoth k (fun e => by subst e; rw [hMb] at hk; cases hk)]
    exact h.snap k o hk
  · intro j q k hj hq
    obtain ⟨h1, h2, h3⟩ := h.apart j q k hj hq
    exact ⟨h1, h2, by simpa using h3⟩
  · intro j o hj
    simp only [St.obj, get_put] at hj
    by_cases e : i = j
    · subst e
      simp at hj; subst hj
      refine ⟨_, hb, xs', ?_, hf⟩
      obtain ⟨xs, hown, _⟩ := row_at h hb ho
      rcases hown.2 with ⟨h0, _⟩ | ⟨g', cap', cur0, hv, hbg, hg, hnc, hcm, hcs, _⟩
      · cases h0
      · cases hv
        rw [hcur] at hg; cases hg
        refine ⟨by rw [hf.length, rows_len], .inr ⟨_, _, cur', by rw [hl], hbg, setRow_heap w g cur cur' T (0, 0) hcur, by omega, hcm, by omega, by rw [hl]; exact ht⟩⟩
    · simp [e] at hj
      obtain ⟨p, hp, hr⟩ := h.objs j o hj
      refine ⟨p, hp, hr.world fun k hk => hoth k (fun e' => ?_)⟩
      subst e'
      exact e (h.inj i j _ p k hb hp rfl hk)

theorem Rel.vecWritten (h : Rel w0 M0 M β σ a.tmps w) {i : Nat} {T r : Nat} {es es' : List CV} (ho : get σ.objs i = some (.vec T r es)) {g m cap : Nat} (hb : β i = some (.inr (.slice (some ⟨g, 0, none⟩) m cap)))
    {xs' : List Value} (hf : CVs M β es' xs') (hl : es'.length = es.length) {cur' : Array Value} {cur : Array Value} (hcur : w.heap[g]? = some (.cells cur T (0, 0))) (hs : cur'.size = cur.size) (ht : cur'.toList.take es.length = xs') :
    Rel w0 M0 M β (σ.obj i (.vec T r es')) a.tmps (w.setRow g cur') := by
  obtain ⟨hMb, hB, hlt⟩ := h.apart i _ g hb rfl
  have hoth : ∀ k, k ≠ g → (w.setRow g cur').heap[k]? = w.heap[k]? := fun k hk => setRow_other w g k cur' hk
  refine { h with below := ?_, snap := ?_, apart := ?_, objs := ?_ }
  · exact h.below.row hB
  · intro k o hk
    rw [hoth k (fun e => by subst e; rw [hMb] at hk; cases hk)]
    exact h.snap k o hk
  · intro j q k hj hq
    obtain ⟨h1, h2, h3⟩ := h.apart j q k hj hq
    exact ⟨h1, h2, by simpa using h3⟩
  · intro j o hj
    simp only [St.obj, get_put] at hj
    by_cases e : i = j
    · subst e
      simp at hj; subst hj
      obtain ⟨xs, hown, _, hroom⟩ := vec_at h hb ho
      refine ⟨_, hb, xs', ?_, hf, hroom⟩
      rcases hown.2 with ⟨h0, _⟩ | ⟨g', cap', cur0, hv, hbg, hg, hnc, hcm, hcs, _⟩
      · cases h0
      · cases hv
        rw [hcur] at hg; cases hg
        refine ⟨by rw [hf.length, Nat.mul_one], .inr ⟨_, _, cur', by rw [hl], hbg, setRow_heap w g cur cur' T (0, 0) hcur, by omega, hcm, by omega, by rw [hl, Nat.mul_one]; exact ht⟩⟩
    · simp [e] at hj
      obtain ⟨p, hp, hr⟩ := h.objs j o hj
      refine ⟨p, hp, hr.world fun k hk => hoth k (fun e' => ?_)⟩
      subst e'
      exact e (h.inj i j _ p k hb hp rfl hk)

theorem Flat.split {sz : Nat} {es : List (List D)} {xs : List Value} (h : Flat M sz es xs) (k : Nat) : Flat M sz (es.take k) (xs.take (k * sz)) ∧ Flat M sz (es.drop k) (xs.drop (k * sz)) := by
  induction h generalizing k with
  | nil => simp; exact .nil
  | @cons e vs es xs h1 h2 h3 ih =>
    cases k with
    | zero => simpa using ⟨Flat.nil, Flat.cons h1 h2 h3⟩
    | succ k =>
      have hv : vs.length = sz := h1.length.trans h2
      rw [List.take_succ_cons, List.drop_succ_cons, show (k + 1) * sz = vs.length + k * sz by rw [Nat.add_mul, hv]; omega, List.take_length_add_append, ← List.drop_drop, List.drop_left]
      exact ⟨.cons h1 h2 (ih k).1, (ih k).2⟩
/-- elements from k on are written over -/
theorem Flat.over {sz : Nat} {es ns : List (List D)} {xs us : List Value} (h : Flat M sz es xs) (h' : Flat M sz ns us) (k : Nat) : Flat M sz (es.take k ++ ns ++ es.drop (k + ns.length)) (xs.take (k * sz) ++ us ++ xs.drop (k * sz + us.length)) := by
  have h1 := (h.split k).1
  have h2 := (h.split (k + ns.length)).2
  rw [Nat.add_mul, ← h'.length] at h2
  exact (h1.append h').append h2



def doStore (tbl : Tbl) (σ : St) (t : Nat) (x y : Operand) : Tr Chg :=
  match get tbl t, (ev σ y).cells with
  | some l, some ds =>
    if ds.length = l.size then
      match ev σ x with
      | .e (.c (.np i off)) =>
        match get σ.objs i with
        | some (.cells T cs) => if off + l.size ≤ cs.length then .ret (objC σ.objs i (.cells T (splice cs off ds))) else .fail
        | _ => .fail
      | .e (.c (.rp i sz k j)) =>
        match get σ.objs i, toDs ds with
        | some (.row ty T es), some dl =>
          if sz = ty.sz ∧ j + l.size ≤ ty.sz then
            match join ty (splice (split ty (es.getD k ty.dflt)) j dl) with
            | some x => Tr.need (decide (k < es.length)) (.ret (objC σ.objs i (.row ty T (es.set k x))))
            | none => .fail
          else .fail
        | some (.vec T r es), _ =>
          match ds with
          | [c] => if sz = 1 ∧ j = 0 ∧ k < es.length then .ret (objC σ.objs i (.vec T r (es.set k c))) else .fail
          | _ => .fail
        | _, _ => .fail
      | _ => .fail
    else .fail
  | _, _ => .fail

theorem Cells.splice {e ds : List D} {us vs : List Value} (h : Cells M e us) (h' : Cells M ds vs) (r : Nat) : Cells M (splice e r ds) (splice us r vs) := by
  unfold Sy.splice
  rw [h'.length]
  exact ((h.take r).append h').append (h.drop _)
theorem splice_length {α : Type} {cs ds : List α} {off : Nat} (h : off + ds.length ≤ cs.length) : (splice cs off ds).length = cs.length := by
  simp [splice]; omega
theorem set_eq_over {α : Type} (l : List α) (k : Nat) (x : α) (hk : k < l.length) : l.set k x = l.take k ++ [x] ++ l.drop (k + [x].length) := by
  rw [List.set_eq_take_append_cons_drop, if_pos hk]; simp
/-- a part of an element's cells written over is a part of the row's cells written over -/
theorem splice_mid (xs vs : List Value) (p sz r : Nat) (hp : p + sz ≤ xs.length) (hr : r + vs.length ≤ sz) :
    xs.take p ++ splice ((xs.drop p).take sz) r vs ++ xs.drop (p + sz) = splice xs (p + r) vs := by
  have hB : ((xs.drop p).take sz).length = sz := by simp; omega
  have e1 : xs.take (p + r) = xs.take p ++ ((xs.drop p).take sz).take r := by rw [List.take_add, List.take_take, Nat.min_eq_left (by omega)]
  have e2 : xs.drop (p + r + vs.length) = ((xs.drop p).take sz).drop (r + vs.length) ++ xs.drop (p + sz) := by
    rw [Nat.add_assoc, ← List.drop_drop, ← List.drop_drop (i := sz) (j := p)]
    conv => lhs; rw [← List.take_append_drop sz (xs.drop p)]
    rw [List.drop_append_of_le_length (by rw [hB]; omega)]
  unfold splice
  rw [e1, e2]
  simp only [List.append_assoc]

theorem splice_toArray_take (cur : Array Value) (off n : Nat) (vs : List Value) (h : off + vs.length ≤ n) (hn : n ≤ cur.size) : ((splice cur.toList off vs).toArray).toList.take n = splice (cur.toList.take n) off vs := by
  have hl : (cur.toList.take n).length = n := by simp; omega
  have e1 : cur.toList.take off = (cur.toList.take n).take off := by rw [List.take_take, Nat.min_eq_left (by omega)]
  have e2 : cur.toList.drop (off + vs.length) = (cur.toList.take n).drop (off + vs.length) ++ cur.toList.drop n := by
    conv => lhs; rw [← List.take_append_drop n cur.toList]
    rw [List.drop_append_of_le_length (by rw [hl]; omega)]
  unfold splice
  rw [e1, e2]
  simp only [← List.append_assoc]
  rw [List.take_append_of_le_length (by simp; omega), List.take_of_length_le (by simp; omega)]

theorem doStore_ok (ht : TblOk P tbl) (h : Rel w0 M0 M β σ a.tmps w) {t : Nat} {x y : Operand} {K : Chg → Prop} (hk : (doStore tbl σ t x y).sat K) :
    ∃ ch w', K ch ∧ (Instr.storeAt t (a.eval x) (a.eval y)).run P w = .ok () w' ∧ Rel w0 M0 M β (σ.app ch) a.tmps w' := by
  unfold doStore at hk
  split at hk
  · rename_i l ds hl hds
    have hcv := (ev_ok h y).cells hds
    split at hk
    · rename_i hz
      have hvs : (a.eval y).cells.size = l.size := by have := hcv.length; simp at this; omega
      have hx := ev_ok h x
      split at hk
      · rename_i i off he
        rw [he] at hx
        obtain ⟨b, hb, e⟩ := (show CVR M β (.np i off) _ from hx)
        split at hk
        · rename_i T cs ho
          split at hk
          · rename_i hfit
            obtain ⟨p, hp, hr⟩ := h.objs i _ ho
            rw [hb] at hp; cases hp
            obtain ⟨vs, hw, hc⟩ := hr
            have hcl := hc.length
            simp at hcl
            have hrun := run_storeVar_ok (P := P) (v := a.eval y) (sizeOf_ok ht hl w) hvs hw (off := off) (by omega) hcv.one
            refine ⟨_, _, hk, by rw [e]; simp [Instr.storeAt, Instr.sureAddr, hrun], h.written hb (vs := (splice vs.toList off (a.eval y).cells.toList).toArray) hw ?_⟩
            simpa using hc.splice hcv off
          · exact hk.elim
        · exact hk.elim
      · rename_i i sz k j he
        rw [he] at hx
        obtain ⟨g, m, cap, hb, e⟩ := (show CVR M β (.rp i sz k j) _ from hx)
        split at hk
        · rename_i ty T es dl ho hdl
          split at hk
          · rename_i hsz
            obtain ⟨rfl, hk2⟩ := hsz
            split at hk
            · rename_i x hx'
              obtain ⟨hk1, hk⟩ := Tr.sat_need hk
              simp only [decide_eq_true_eq] at hk1
              obtain ⟨xs, hown, hf⟩ := row_at h hb ho
              rcases hown.2 with ⟨h0, _⟩ | ⟨g', cap', cur, hv, hbg, hg, hnc, hcm, hcs, htk⟩
              · cases h0
              · cases hv
                have hdc := toDs_ok hcv hdl
                have hdl' := hdc.length
                have hlen := hf.length
                rw [rows_len] at hlen
                have hmul : (k + 1) * ty.sz ≤ es.length * ty.sz := Nat.mul_le_mul_right _ hk1
                rw [Nat.add_mul, Nat.one_mul] at hmul
                have hcap : es.length * ty.sz ≤ cur.size := by rw [hcs]; exact Nat.mul_le_mul_right _ hnc
                have hvl : (a.eval y).cells.toList.length = l.size := by simp [hvs]
                have hrun := run_storeVar_ok (P := P) (v := a.eval y) (sizeOf_ok ht hl w) hvs hg (off := k * ty.sz + j) (by omega) hcv.one
                have hek := hf.at_ (rows_at ty hk1)
                have hnew0 := join_ok ty hx' (hek.splice hdc j)
                have hnew : Flat M ty.sz [split ty x] (splice ((xs.drop (k * ty.sz)).take ty.sz) j (a.eval y).cells.toList ++ []) :=
                  .cons hnew0 (split_len ty x) .nil
                rw [List.append_nil] at hnew
                have hover := hf.over hnew k
                have hset : rows ty (es.set k x) = (rows ty es).set k (split ty x) := List.map_set ..
                rw [← set_eq_over (rows ty es) k _ (by rw [rows_len]; exact hk1), ← hset] at hover
                have hsl : (splice ((xs.drop (k * ty.sz)).take ty.sz) j (a.eval y).cells.toList).length = ty.sz := by rw [splice_length (by simp; omega)]; simp; omega
                rw [hsl, splice_mid xs _ _ ty.sz _ (by omega) (by omega)] at hover
                refine ⟨_, _, hk, by rw [e]; simp [Instr.storeAt, Instr.sureAddr, hrun], h.rowWritten ho hb hover (by simp) hg (cur' := (splice cur.toList (k * ty.sz + j) (a.eval y).cells.toList).toArray) ?_ ?_⟩
                · simp only [List.size_toArray]
                  rw [splice_length (by simp at hvl; simp; omega)]; simp
                · rw [splice_toArray_take cur (k * ty.sz + j) _ _ (by omega) hcap, htk]
            · exact hk.elim
          · exact hk.elim
        · rename_i _ T r es ho
          split at hk
          · rename_i c
            split at hk
            · rename_i hc
              obtain ⟨rfl, rfl, hk1⟩ := hc
              obtain ⟨xs, hown, hf, _⟩ := vec_at h hb ho
              rcases hown.2 with ⟨h0, _⟩ | ⟨g', cap', cur, hv, hbg, hg, hnc, hcm, hcs, htk⟩
              · cases h0
              · cases hv
                have hvl : (a.eval y).cells.toList.length = 1 := hcv.length
                have hvl' : (a.eval y).cells.size = 1 := by simpa using hvl
                have hl1 : l.size = 1 := by omega
                have hrun := run_storeVar_ok (P := P) (v := a.eval y) (sizeOf_ok ht hl w) hvs hg (off := k) (by omega) hcv.one
                have hcap : es.length ≤ cur.size := by omega
                simp only [Nat.mul_one, Nat.add_zero] at e
                refine ⟨_, _, hk, by rw [e]; simp [Instr.storeAt, Instr.sureAddr, hrun], h.vecWritten ho hb (xs' := splice xs k (a.eval y).cells.toList) ?_ (by simp) hg (cur' := (splice cur.toList k (a.eval y).cells.toList).toArray) ?_ ?_⟩
                · have := hf.splice hcv k
                  have e1 : splice es k [c] = es.set k c := by
                    unfold splice; rw [set_eq_over es k c hk1]
                  rw [e1] at this
                  exact this
                · simp only [List.size_toArray]
                  rw [splice_length (by simp [hvl']; omega)]; simp
                · rw [splice_toArray_take cur k _ _ (by omega) hcap]
                  rw [Nat.mul_one] at htk; rw [htk]
            · exact hk.elim
          · exact hk.elim
        · exact hk.elim
      · exact hk.elim
    · exact hk.elim
  · exact hk.elim
end
end Go.Proofs.YtjebfbkigkjboaaGreatDoor.Sy
