/- The calculus, tenth part: append, copy, two structs held against each other. -/
import Derived.Laws.Pointers
import Derived.Laws.Cover3
import Derived.WalkSpells
import Derived.Orders
import Derived.Test.YtjebfbkigkjboaaGreatDoorR1
namespace Go.Proofs.YtjebfbkigkjboaaGreatDoor.Sy
open Go.RowKit Kit

section
variable {P : Program} {tbl : Tbl} {w0 : Base} {w : World} {M0 M : Snap} {β : Plc} {σ : St} {a : Act} {K : Res → Prop}

def strB (s : ByteArray) : List Int := s.data.toList.map fun c => (c.toNat : Int)
theorem strB_length (s : ByteArray) : (strB s).length = s.size := by simp [strB]
def isU8 : TypeDesc → Bool
  | .int .u8 => true
  | _ => false
/-- a text's bytes, where bytes are wanted -/
def strT (s : ByteArray) : (t : Ty) → Option (List t.El)
  | .int .u8 => some (strB s)
  | _ => none
/-- elements, as those of a kind -/
def castT (t : Ty) (x : TL) : Option (List t.El) := if h : x.t = t then some (h ▸ x.l) else match x.l with | [] => some [] | _ => none
/-- the elements of what is appended or copied -/
def srcOf (tbl : Tbl) (σ : St) (t : Ty) (u : Nat) (y : Operand) : Option (List t.El) :=
  match get tbl u with
  | some lu =>
    match lu.desc, ev σ y with
    | .string, .e (.c (.d (.v (.string s)))) => strT s t
    | .slice _, .e (.c .nil) => some []
    | .slice _, z => (elems σ z).bind (castT t)
    | _, _ => none
  | none => none
theorem castT_ok {t : Ty} {x : TL} {l : List t.El} (h : castT t x = some l) {xs : List Value} (hf : Flat M x.t.sz (rows x.t x.l) xs) : l.length = x.l.length ∧ Flat M t.sz (rows t l) xs := by
  obtain ⟨t', l'⟩ := x
  unfold castT at h
  split at h
  · rename_i e
    simp only at e; subst e; cases h; exact ⟨rfl, hf⟩
  · split at h
    · rename_i e; cases h
      simp only at e; subst e
      cases hf; exact ⟨rfl, .nil⟩
    · cases h
theorem flat_strB (s : ByteArray) : Flat M 1 (rows (.int .u8) (strB s)) (Lib.strCells s) := by
  have e : Lib.strCells s = (strB s).map (Value.int .u8) := by simp [Lib.strCells, strB]
  rw [e]
  induction strB s with
  | nil => exact .nil
  | cons n l ih => exact .cons (vs := [.int .u8 n]) (.cons (.v rfl) .nil) rfl ih

theorem srcOf_ok (ht : TblOk P tbl) (h : Rel w0 M0 M β σ a.tmps w) {t : Ty} {u : Nat} {y : Operand} {l : List t.El} (hs : srcOf tbl σ t u y = some l) (hin : inside σ (ev σ y) = true) :
    ∃ du news, P.underlying u = some du ∧ ((∃ e', du = .slice e') ∨ du = .string) ∧ Flat M t.sz (rows t l) news ∧
      (∀ W : World, (Builtin.lenOf (a.eval y)).run P W = .ok l.length W) ∧
      ∀ m, m ≤ l.length → ∀ W : World, W.heap = w.heap → (Builtin.firstCells t.sz m (a.eval y)).run P W = .ok (news.take (m * t.sz)).toArray W := by
  unfold srcOf at hs
  split at hs
  · rename_i lu hlu
    have hu := (ht u lu hlu).2
    have hx := ev_ok h y
    split at hs
    · rename_i s hd he
      rw [he] at hx; rw [hd] at hu
      unfold strT at hs
      split at hs
      · cases hs
        generalize a.eval y = v at hx ⊢
        cases (show DR M (.v (.string s)) v from hx)
        refine ⟨_, Lib.strCells s, hu, .inr rfl, flat_strB s, fun W => ?_, fun m hm W _ => ?_⟩
        · simp [Builtin.lenOf, strB_length]
        · simp only [Ty.sz, Nat.mul_one]
          simp only [Builtin.firstCells, Sem.run_pure]
          congr 1
          apply Array.ext'
          simp [Lib.strCells, List.map_take, ByteArray.data_extract]
      · cases hs
    · rename_i e hd he
      rw [he] at hx; rw [hd] at hu
      cases hs
      rw [show a.eval y = _ from hx]
      exact ⟨_, [], hu, .inl ⟨_, rfl⟩, .nil, fun W => by simp [Builtin.lenOf], fun m hm W _ => by simp [Builtin.firstCells]⟩
    · rename_i e hd hnil
      rw [hd] at hu
      obtain ⟨x, hel, hc⟩ := Option.bind_eq_some_iff.1 hs
      obtain ⟨A, c, xs, hv, hnc, hf, _, hA⟩ := elems_ok h hx hel hin
      obtain ⟨hlen, hf'⟩ := castT_ok hc hf
      rw [hv]
      refine ⟨_, xs, hu, .inl ⟨_, rfl⟩, hf', fun W => by simp [Builtin.lenOf, hlen], fun m hm W hW => ?_⟩
      cases A with
      | none =>
        have : x.l = [] := by
          by_cases e : x.l = []
          · exact e
          · obtain ⟨ad, e', _⟩ := hA e; cases e'
        rw [this] at hlen
        have hl0 : l = [] := List.eq_nil_of_length_eq_zero hlen
        subst hl0
        cases hf'
        simp [Builtin.firstCells]
      | some ad =>
        have hl := hf'.length
        rw [rows_len] at hl
        have hml : m * t.sz ≤ l.length * t.sz := Nat.mul_le_mul_right _ hm
        refine run_firstCells_some W t.sz m ad _ c (xs.take (m * t.sz)) (by rw [List.length_take]; omega) fun j u hj => ?_
        have hne : x.l ≠ [] := by
          intro e; rw [e] at hlen
          have hl0 : l = [] := List.eq_nil_of_length_eq_zero hlen
          subst hl0; cases hf'; simp at hj
        obtain ⟨ad', e', hc⟩ := hA hne
        cases e'
        rw [List.getElem?_take] at hj
        split at hj
        · exact hc W hW j u hj
        · cases hj
    · cases hs
  · cases hs

/-- the row that is appended to: none where it is the nil slice -/
structure DT where
  i : Option Nat
  t : Ty
  l : List t.El
def dstOf (σ : St) (e : Nat) (le : Lay) (x : Operand) : Option DT :=
  match ev σ x with
  | .e (.c .nil) =>
    match le.ty with
    | some t => some ⟨none, t, []⟩
    | none => none
  | .e (.c (.row i)) =>
    match get σ.objs i with
    | some (.row t T l) => if T = e then some ⟨some i, t, l⟩ else none
    | _ => none
  | .e (.c (.rv i sz 0 n)) =>
    match get σ.objs i with
    | some (.row t T l) => if T = e ∧ sz = t.sz then some ⟨some i, t, l.take n⟩ else none
    | _ => none
  | _ => none
/-- whether what is appended to lies in its row -/
def insideD (σ : St) (x : SV) {α : Type} (t : Tr α) : Tr α :=
  match x with
  | .e (.c (.rv i _ _ n)) =>
    match get σ.objs i with
    | some (.row _ _ l) => Tr.need (decide (n ≤ l.length)) t
    | _ => .fail
  | _ => t
theorem insideD_ok {x : SV} {α : Type} {t : Tr α} {K : α → Prop} (h : (insideD σ x t).sat K) : t.sat K ∧ ∀ i sz k n, x = .e (.c (.rv i sz k n)) → ∃ t T l, get σ.objs i = some (.row t T l) ∧ n ≤ l.length := by
  unfold insideD at h
  split at h
  · rename_i i sz k n
    split at h
    · rename_i t T l ho
      obtain ⟨h1, h2⟩ := Tr.sat_need h
      refine ⟨h2, fun i' sz' k' n' e => ?_⟩
      cases e
      exact ⟨t, T, l, ho, by simpa using h1⟩
    · exact h.elim
  · rename_i hx
    exact ⟨h, fun i sz k n e => absurd e (hx i sz k n)⟩
def doAppend (tbl : Tbl) (σ : St) (s t u : Nat) (x y : Operand) : Tr Res :=
  match get tbl t with
  | some l =>
    match l.desc with
    | .slice e =>
      match get tbl e with
      | some le =>
        match dstOf σ e le x with
        | some ⟨i, ty, es⟩ =>
          match srcOf tbl σ ty u y with
          | some ns =>
            if ty.sz = le.size ∧ 0 < le.bytes ∧ le.zero.cells.size = le.size then
              insideD σ (ev σ x) (Tr.need (inside σ (ev σ y)) (Tr.need (decide ((es.length + ns.length) * le.bytes ≤ 140737488355328))
                (.ret (.e (.c (.row s)), growC σ.objs i s (.row ty e (es ++ ns))))))
            else .fail
          | none => .fail
        | none => .fail
      | none => .fail
    | _ => .fail
  | none => .fail
theorem info_of (ht : TblOk P tbl) {t : Nat} {l : Lay} (hl : get tbl t = some l) : ∃ i, P.info? t = some i ∧ i.zero = some l.zero ∧ i.size = l.size ∧ i.bytes = l.bytes := by
  have hi := (ht _ _ hl).1
  cases e : P.info? t with
  | none => simp [e] at hi
  | some i => simp [e] at hi; exact ⟨i, rfl, hi.1, hi.2.1, hi.2.2⟩
theorem ownsRow_take {base : Nat} {T : TypeId} {sz g m cap c n : Nat} {xs : List Value} (h : w.ownsRow base T sz (.slice (some ⟨g, 0, none⟩) m cap) m xs) (hn : n ≤ m) (hc : c = cap) :
    w.ownsRow base T sz (.slice (some ⟨g, 0, none⟩) n c) n (xs.take (n * sz)) := by
  subst hc
  rcases h.2 with ⟨h0, _⟩ | ⟨g', cap', cur, hv, hb, hg, hnc, hcm, hcs, htk⟩
  · cases h0
  · cases hv
    have hl := h.1
    have hle : n * sz ≤ m * sz := Nat.mul_le_mul_right _ hn
    refine ⟨by rw [List.length_take]; omega, .inr ⟨g, c, cur, rfl, hb, hg, by omega, hcm, hcs, ?_⟩⟩
    rw [← htk, List.take_take, Nat.min_eq_left hle]
theorem dstOf_ok (h : Rel w0 M0 M β σ a.tmps w) {e : Nat} {le : Lay} {x : Operand} {i : Option Nat} {t : Ty} {l : List t.El} (hd : dstOf σ e le x = some ⟨i, t, l⟩) (hin : ∀ i sz k n, ev σ x = .e (.c (.rv i sz k n)) → ∃ t T l, get σ.objs i = some (.row t T l) ∧ n ≤ l.length) :
    ∃ xs, w.ownsRow 0 e t.sz (a.eval x) l.length xs ∧ Flat M t.sz (rows t l) xs ∧ (∀ k, i = some k → ∃ u, β k = some (.inr u) ∧ u.ownBlock = (a.eval x).ownBlock) ∧ (i = none → (a.eval x).ownBlock = none) := by
  have hx := ev_ok h x
  unfold dstOf at hd
  split at hd
  · rename_i he
    rw [he] at hx
    split at hd
    · cases hd
      rw [show a.eval x = _ from hx]
      exact ⟨[], World.ownsRow_nil w _ _ _, .nil, (fun k hk => by cases hk), fun _ => rfl⟩
    · cases hd
  · rename_i k he
    rw [he] at hx
    split at hd
    · rename_i t' T l' ho
      split at hd
      · rename_i hc
        subst hc
        cases hd
        have hb := (show CVR M β (.row k) (a.eval x) from hx).1
        obtain ⟨xs, hown, hf⟩ := row_at h hb ho
        exact ⟨xs, hown, hf, (fun k' hk' => by cases hk'; exact ⟨_, hb, rfl⟩), fun e => by cases e⟩
      · cases hd
    · cases hd
  · rename_i k sz n he
    rw [he] at hx
    obtain ⟨t0, T0, l0, ho0, hle⟩ := hin _ _ _ _ he
    split at hd
    · rename_i t' T l' ho
      rw [ho] at ho0; cases ho0
      split at hd
      · rename_i hc
        obtain ⟨rfl, rfl⟩ := hc
        cases hd
        obtain ⟨g, m, cap, c, hb, hv, hnc, hcm, hcc⟩ := (show CVR M β (.rv k t.sz 0 n) (a.eval x) from hx)
        obtain ⟨xs, hown, hf⟩ := row_at h hb ho
        obtain ⟨A, c', hA, _⟩ := row_form hown
        have hm : m = l0.length := by cases hA; rfl
        subst hm
        have hn : (l0.take n).length = n := by simp; omega
        rw [hv, Nat.zero_mul, hn, rows_take]
        exact ⟨xs.take (n * t.sz), ownsRow_take hown hle (by omega), hf.takeS n, (fun k' hk' => by cases hk'; exact ⟨_, hb, rfl⟩), fun e => by cases e⟩
      · cases hd
    · cases hd
  · cases hd
theorem doAppend_ok (ht : TblOk P tbl) (h : Rel w0 M0 M β σ a.tmps w) {s t u ty : Nat} {x y : Operand} (hk : (doAppend tbl σ s t u x y).sat K) :
    Owes P w0 M0 σ K a.tmps w (Builtin.append_ #[t, u] ty #[a.eval x, a.eval y]) := by
  unfold doAppend at hk
  split at hk
  · rename_i l hl
    have hut := (ht t l hl).2
    split at hk
    · rename_i e hd
      rw [hd] at hut
      split at hk
      · rename_i le hle
        split at hk
        · rename_i i tt es hdst
          split at hk
          · rename_i ns hsrc
            split at hk
            · rename_i hc
              obtain ⟨hts, hb0, hzs⟩ := hc
              obtain ⟨hk0, hinD⟩ := insideD_ok hk
              obtain ⟨hin, hk'⟩ := Tr.sat_need hk0
              clear hk hk0
              obtain ⟨hbytes, hk⟩ := Tr.sat_need hk'
              clear hk'
              simp only [decide_eq_true_eq] at hbytes
              obtain ⟨inf, hi, hiz, his, hib⟩ := info_of ht hle
              obtain ⟨xs, hown, hf, hbk, hnil⟩ := dstOf_ok h hdst hinD
              obtain ⟨du, news, hu, hdu, hfn, hlen, hfc⟩ := srcOf_ok ht h hsrc hin
              have hnl := hfn.length
              rw [rows_len] at hnl
              have hle1 : (es.length + ns.length) ≤ (es.length + ns.length) * le.bytes := Nat.le_mul_of_pos_right _ hb0
              obtain ⟨v', w', hrun, hown', hg, hat⟩ := run_append_gen (P := P) w 0 t u ty e inf le.zero tt.sz le.bytes hut hu hdu hi hiz (by rw [his, hts]) hib (by rw [hzs, hts]) tt.sz_pos (a.eval x) es.length xs hown (a.eval y) ns.length news hnl hlen
                (fun W hW => by have := hfc ns.length (Nat.le_refl _) W hW; rwa [List.take_of_length_le (by omega)] at this) hfn.one (by simp only [maxLen]; omega) hbytes (Nat.zero_le _)
              obtain ⟨β', hb', hrel⟩ := h.grown hbk hnil hg hat (n := es.length + ns.length) (t := tt) (l := es ++ ns) (by simp) hown' (by rw [rows_append]; exact hf.append hfn) (j := s)
              obtain ⟨A, c, hv', _⟩ := row_form hown'
              exact ⟨_, _, v', w', hk, hrun, M, β', by rw [app_growC]; exact hrel, hb', A, _, c, hv'⟩
            · exact hk.elim
          · exact hk.elim
        · exact hk.elim
      · exact hk.elim
    · exact hk.elim
  · exact hk.elim

def doAppendZ (tbl : Tbl) (σ : St) (s t u : Nat) (x y : Operand) : Tr Res :=
  match get tbl t, (ev σ y).int, get tbl u with
  | some l, some m, some lu =>
    match l.desc, lu.desc with
    | .slice e, .int _ =>
      match get tbl e with
      | some le =>
        match dstOf σ e le x with
        | some ⟨i, ty, es⟩ =>
          match (toD (constC le.zero)).bind fun z => join ty [z] with
          | some z =>
            if ty.sz = 1 ∧ le.size = 1 ∧ le.zero.oneCell' = true ∧ 1 ≤ le.bytes then
              insideD σ (ev σ x) (Tr.need (decide (0 ≤ m ∧ (es.length + m.toNat) * le.bytes ≤ 140737488355328))
                (.ret (.e (.c (.row s)), growC σ.objs i s (.row ty e (es ++ List.replicate m.toNat z)))))
            else .fail
          | none => .fail
        | none => .fail
      | none => .fail
    | _, _ => .fail
  | _, _, _ => .fail
theorem doAppendZ_ok (ht : TblOk P tbl) (h : Rel w0 M0 M β σ a.tmps w) {s t u ty : Nat} {x y : Operand} (hk : (doAppendZ tbl σ s t u x y).sat K) :
    Owes P w0 M0 σ K a.tmps w (Builtin.append_ #[t, u] ty #[a.eval x, a.eval y]) := by
  unfold doAppendZ at hk
  split at hk
  · rename_i l m lu hl hm hlu
    have hut := (ht t l hl).2
    have huu := (ht u lu hlu).2
    obtain ⟨kx, ey⟩ := (ev_ok h y).int hm
    split at hk
    · rename_i e ku hd hdu
      rw [hd] at hut
      rw [hdu] at huu
      split at hk
      · rename_i le hle
        split at hk
        · rename_i i tt es hdst
          split at hk
          · rename_i z hz'
            split at hk
            · rename_i hc
              obtain ⟨hty1, hs1, hone, hby⟩ := hc
              obtain ⟨zd, hz, hzj⟩ := Option.bind_eq_some_iff.1 hz'
              have hzc := cells_one hone
              obtain ⟨hk0, hinD⟩ := insideD_ok hk
              obtain ⟨hc, hk'⟩ := Tr.sat_need hk0
              clear hk hk0
              simp only [decide_eq_true_eq] at hc
              obtain ⟨h0, hbytes⟩ := hc
              obtain ⟨inf, hi, hiz, his, hib⟩ := info_of ht hle
              obtain ⟨xs, hown, hf, hbk, hnil⟩ := dstOf_ok h hdst hinD
              have hd1 : DR M zd le.zero := toD_ok (constC_ok M β le.zero) hz
              have hfn : Flat M tt.sz (rows tt (List.replicate m.toNat z)) (List.replicate m.toNat le.zero) := by
                rw [hty1]; exact flat_replicate (join_ok tt hzj (.cons hd1 .nil)) hty1 _
              have hle1 : (es.length + m.toNat) ≤ (es.length + m.toNat) * le.bytes := Nat.le_mul_of_pos_right _ (by omega)
              have hz0 : Builtin.zeroCells le.zero.cells m.toNat = (List.replicate m.toNat le.zero).toArray := by
                rw [hzc]
                unfold Builtin.zeroCells
                apply Array.ext'
                simp [Nat.mod_one]
                exact List.ext_getElem (by simp) (by intro k h1 h2; simp)
              obtain ⟨v', w', hrun, hown', hg, hat⟩ := run_append_zeros (P := P) w 0 t u ty e inf le.zero tt.sz le.bytes hut huu hi hiz (by rw [his, hs1, hty1]) hib (by rw [hzc, hty1]; rfl) tt.sz_pos (a.eval x) es.length xs hown kx m.toNat (List.replicate m.toNat le.zero)
                (by rw [hty1]; simp) hz0 hfn.one (by simp only [maxLen]; omega) hbytes (Nat.zero_le _)
              obtain ⟨β', hb', hrel⟩ := h.grown hbk hnil hg hat (n := es.length + m.toNat) (t := tt) (l := es ++ List.replicate m.toNat z) (by simp) hown' (by rw [rows_append]; exact hf.append hfn) (j := s)
              obtain ⟨A, c, hv', _⟩ := row_form hown'
              have em : (m.toNat : Int) = m := by omega
              exact ⟨_, _, v', w', hk', by rw [ey, ← em]; exact hrun, M, β', by rw [app_growC]; exact hrel, hb', A, _, c, hv'⟩
            · exact hk.elim
          · exact hk.elim
        · exact hk.elim
      · exact hk.elim
    · exact hk.elim
  · exact hk.elim
/-! ### rows whose elements are cells of any kind -/
structure DV where
  i : Option Nat
  r : Nat
  l : List CV
def dstV (σ : St) (e : Nat) (x : Operand) : Option DV :=
  match ev σ x with
  | .e (.c .nil) => some ⟨none, 0, []⟩
  | .e (.c (.row i)) =>
    match get σ.objs i with
    | some (.vec T r l) => if T = e then some ⟨some i, r, l⟩ else none
    | _ => none
  | .e (.c (.rv i 1 0 n)) =>
    match get σ.objs i with
    | some (.vec T r l) => if T = e ∧ n ≤ l.length then some ⟨some i, max r l.length, l.take n⟩ else none
    | _ => none
  | _ => none
def srcV (σ : St) (y : Operand) : Option (List CV) :=
  match ev σ y with
  | .e (.c .nil) => some []
  | .e (.c (.d (.sl _ []))) => some []
  | .e (.c (.row j)) =>
    match get σ.objs j with
    | some (.vec _ _ l) => some l
    | _ => none
  | .e (.c (.rv j 1 k n)) =>
    match get σ.objs j with
    | some (.vec _ _ l) => if k + n ≤ l.length then some ((l.drop k).take n) else none
    | _ => none
  | _ => none
theorem cell?_heap {W w : World} (h : W.heap = w.heap) (a : Addr) : W.cell? a = w.cell? a := by unfold World.cell?; rw [h]
theorem dstV_ok (h : Rel w0 M0 M β σ a.tmps w) {e : Nat} {x : Operand} {i : Option Nat} {r : Nat} {l : List CV} (hd : dstV σ e x = some ⟨i, r, l⟩) :
    ∃ xs, w.ownsRow 0 e 1 (a.eval x) l.length xs ∧ CVs M β l xs ∧ r ≤ capOf (a.eval x) ∧ (∀ k, i = some k → ∃ u, β k = some (.inr u) ∧ u.ownBlock = (a.eval x).ownBlock) ∧ (i = none → (a.eval x).ownBlock = none) := by
  have hx := ev_ok h x
  unfold dstV at hd
  split at hd
  · rename_i he
    rw [he] at hx
    cases hd
    rw [show a.eval x = _ from hx]
    exact ⟨[], World.ownsRow_nil w _ _ _, .nil, Nat.zero_le _, (fun k hk => by cases hk), fun _ => rfl⟩
  · rename_i k he
    rw [he] at hx
    split at hd
    · rename_i T r' l' ho
      split at hd
      · rename_i hc
        subst hc
        cases hd
        have hb := (show CVR M β (.row k) (a.eval x) from hx).1
        obtain ⟨xs, hown, hf, hroom⟩ := vec_at h hb ho
        exact ⟨xs, hown, hf, hroom, (fun k' hk' => by cases hk'; exact ⟨_, hb, rfl⟩), fun e => by cases e⟩
      · cases hd
    · cases hd
  · rename_i k n he
    rw [he] at hx
    split at hd
    · rename_i T r' l' ho
      split at hd
      · rename_i hc
        obtain ⟨rfl, hle⟩ := hc
        cases hd
        obtain ⟨g, m, cap, c, hb, hv, hnc, hcm, hcc⟩ := (show CVR M β (.rv k 1 0 n) (a.eval x) from hx)
        obtain ⟨xs, hown, hf, hroom⟩ := vec_at h hb ho
        obtain ⟨A, c', hA, hnc', _⟩ := row_form hown
        have hm : m = l'.length := by cases hA; rfl
        subst hm
        have hn : (l'.take n).length = n := by simp; omega
        have hcap : l'.length ≤ cap := by cases hA; exact hnc'
        simp only [capOf] at hroom
        rw [hv, Nat.zero_mul, hn]
        have ho' := ownsRow_take hown hle (c := c) (by omega)
        rw [Nat.mul_one] at ho'
        exact ⟨xs.take n, ho', hf.take n, by simp only [capOf]; omega, (fun k' hk' => by cases hk'; exact ⟨_, hb, rfl⟩), fun e => by cases e⟩
      · cases hd
    · cases hd
  · cases hd
theorem srcV_ok (h : Rel w0 M0 M β σ a.tmps w) {y : Operand} {l : List CV} (hs : srcV σ y = some l) :
    ∃ news, CVs M β l news ∧ (∀ W : World, (Builtin.lenOf (a.eval y)).run P W = .ok l.length W) ∧ ∀ W : World, W.heap = w.heap → (Builtin.firstCells 1 l.length (a.eval y)).run P W = .ok news.toArray W := by
  have hx := ev_ok h y
  unfold srcV at hs
  split at hs
  · rename_i he
    rw [he] at hx
    cases hs
    rw [show a.eval y = _ from hx]
    exact ⟨[], .nil, fun W => rfl, fun W _ => rfl⟩
  · rename_i t he
    rw [he] at hx
    cases hs
    have hd := (show DR M (.sl t []) (a.eval y) from hx)
    obtain ⟨A, n, c, e⟩ := hd.slice
    rw [e] at hd ⊢
    have hn : n = 0 := (Flat.of_dr hd).1
    subst hn
    refine ⟨[], .nil, fun W => rfl, fun W _ => ?_⟩
    cases A with
    | none => rfl
    | some ad =>
      have := run_loadCells_list (P := P) W ad [] (fun j u hu => by simp at hu)
      simpa [Builtin.firstCells] using this
  · rename_i j he
    rw [he] at hx
    split at hs
    · rename_i T r l' ho
      cases hs
      have hb := (show CVR M β (.row j) (a.eval y) from hx).1
      obtain ⟨xs, hown, hf, _⟩ := vec_at h hb ho
      refine ⟨xs, hf, ?_, fun W hW => ?_⟩
      · obtain ⟨A, c, e, _⟩ := row_form hown
        intro W; rw [e]; rfl
      · rcases hown.2 with ⟨e, h0⟩ | ⟨g, cap, cur, e, _, hg, hnc, hcm, hcs, htk⟩
        · have : xs = [] := by have := hown.1; rw [h0] at this; exact List.eq_nil_of_length_eq_zero (by simpa using this)
          subst this
          rw [e, h0]; rfl
        · rw [e]
          simp only [Builtin.firstCells]
          have := run_loadCells_list (P := P) W ⟨g, 0, none⟩ xs fun j u hu => by
            rw [cell?_heap hW]
            exact hown.cells (g := g) (by rw [e]; rfl) j u hu
          rw [hown.1] at this
          exact this
    · cases hs
  · rename_i j k n he
    rw [he] at hx
    split at hs
    · rename_i T r l' ho
      split at hs
      · rename_i hle
        cases hs
        obtain ⟨g, m, cap, c, hb, hv, hnc, hcm, hcc⟩ := (show CVR M β (.rv j 1 k n) (a.eval y) from hx)
        obtain ⟨xs, hown, hf, _⟩ := vec_at h hb ho
        have hl : ((l'.drop k).take n).length = n := by simp; omega
        rw [hl, hv]
        refine ⟨(xs.drop k).take n, (hf.drop k).take n, fun W => rfl, fun W hW => ?_⟩
        simp only [Builtin.firstCells]
        have hxl := hown.1
        have := run_loadCells_list (P := P) W ⟨g, k * 1, none⟩ ((xs.drop k).take n) fun j' u hu => by
          rw [cell?_heap hW, lit_add]
          have hu' : xs[k + j']? = some u := by
            rw [List.getElem?_take] at hu
            split at hu
            · rwa [List.getElem?_drop] at hu
            · cases hu
          have := hown.cells (g := g) rfl (k + j') u hu'
          rw [lit_add] at this
          simpa using this
        rw [show ((xs.drop k).take n).length = n * 1 by simp; omega] at this
        exact this
      · cases hs
    · cases hs
  · cases hs
def doAppendV (tbl : Tbl) (σ : St) (s t u : Nat) (x y : Operand) : Tr Res :=
  match get tbl t, get tbl u with
  | some l, some lu =>
    match l.desc, lu.desc with
    | .slice e, .slice _ =>
      match get tbl e with
      | some le =>
        match dstV σ e x, srcV σ y with
        | some ⟨i, r, es⟩, some ns =>
          if le.size = 1 ∧ 0 < le.bytes ∧ le.zero.cells.size = 1 ∧ (es.length + ns.length) * le.bytes ≤ 140737488355328 then
            match ns with
            | [] => .ret (.e (.c (.row s)), growC σ.objs i s (.vec e r ((match i with | some k => es.map (CV.kill k) | none => es).map (CV.kill s))))
            | n :: ns => .ret (.e (.c (.row s)), growC σ.objs i s (.vec e 0 ((match i with | some k => (es ++ n :: ns).map (CV.kill k) | none => es ++ n :: ns).map (CV.kill s))))
          else .fail
        | _, _ => .fail
      | none => .fail
    | _, _ => .fail
  | _, _ => .fail
theorem CVs.killO {β β' : Plc} {i : Option Nat} {s : Nat} {l : List CV} {vs : List Value} (h : CVs M β l vs) (hst : ∀ k p, k ≠ s → (∀ i', i = some i' → k ≠ i') → β k = some p → β' k = some p) :
    CVs M β' ((match i with | some k => l.map (CV.kill k) | none => l).map (CV.kill s)) vs := by
  cases i with
  | none => exact h.kill fun j p hj hp => hst j p hj (fun _ e => by cases e) hp
  | some k =>
    have h1 : CVs M (fun j => if j = k then none else β j) (l.map (CV.kill k)) vs := h.kill fun j p hj hp => by simp [hj, hp]
    exact h1.kill fun j p hj hp => by
      by_cases e : j = k
      · simp [e] at hp
      · simp [e] at hp; exact hst j p hj (fun _ e' => by cases e'; exact e) hp
theorem doAppendV_ok (ht : TblOk P tbl) (h : Rel w0 M0 M β σ a.tmps w) {s t u ty : Nat} {x y : Operand} (hk : (doAppendV tbl σ s t u x y).sat K) :
    Owes P w0 M0 σ K a.tmps w (Builtin.append_ #[t, u] ty #[a.eval x, a.eval y]) := by
  unfold doAppendV at hk
  split at hk
  · rename_i l lu hl hlu
    have hut := (ht t l hl).2
    have huu := (ht u lu hlu).2
    split at hk
    · rename_i e e' hd hdu
      rw [hd] at hut
      rw [hdu] at huu
      split at hk
      · rename_i le hle
        split at hk
        · rename_i i r es ns hdst hsrc
          split at hk
          · rename_i hc
            obtain ⟨hs1, hb0, hzs, hbytes⟩ := hc
            obtain ⟨inf, hi, hiz, his, hib⟩ := info_of ht hle
            obtain ⟨xs, hown, hf, hroom, hbk, hnil⟩ := dstV_ok h hdst
            obtain ⟨news, hfn, hlen, hfc⟩ := srcV_ok (P := P) h hsrc
            have hle1 : (es.length + ns.length) ≤ (es.length + ns.length) * le.bytes := Nat.le_mul_of_pos_right _ hb0
            have hxl := hown.1
            split at hk
            · -- nothing is appended: the slice as it was
              cases hfn
              refine ⟨_, _, a.eval x, w, hk, ?_, ?_⟩
              · obtain ⟨A, c, e, hnc, _⟩ := row_form hown
                have hlen0 := hlen w
                have hfc0 := hfc w rfl
                simp only [List.length_nil] at hlen0 hfc0
                rw [e]
                simp [Builtin.append_, run_underlying hut, run_underlying huu, sizeOf_ok ht hle w, hs1, hlen0, hfc0, hnc]
                cases A with
                | none => rfl
                | some ad => simp [storeCells]
              · obtain ⟨β', hb', hrel⟩ := h.grownO hbk hnil (World.grownBy.refl w _) (.inl rfl) (.inr hown) (j := s) (o := .vec e r ((match i with | some k => es.map (CV.kill k) | none => es).map (CV.kill s)))
                  fun β' hst => ⟨xs, by have : ((match i with | some k => es.map (CV.kill k) | none => es).map (CV.kill s)).length = es.length := by cases i <;> simp
                                        rw [this]; exact hown, hf.killO hst, hroom⟩
                obtain ⟨A, c, e, _⟩ := row_form hown
                exact ⟨M, β', by rw [app_growC]; exact hrel, hb', A, _, c, e⟩
            · rename_i n ns
              obtain ⟨v', w', hrun, hown', hg, hat⟩ := run_append_gen (P := P) w 0 t u ty e inf le.zero 1 le.bytes hut huu (.inl ⟨_, rfl⟩) hi hiz (by rw [his, hs1]) hib hzs Nat.one_pos (a.eval x) es.length xs hown (a.eval y) (n :: ns).length news (by rw [hfn.length, Nat.mul_one]) hlen
                hfc hfn.one (by simp only [maxLen]; omega) hbytes (Nat.zero_le _)
              obtain ⟨β', hb', hrel⟩ := h.grownO hbk hnil hg hat (.inr hown') (j := s) (o := .vec e 0 ((match i with | some k => (es ++ n :: ns).map (CV.kill k) | none => es ++ n :: ns).map (CV.kill s)))
                fun β' hst => ⟨xs ++ news, by have : ((match i with | some k => (es ++ n :: ns).map (CV.kill k) | none => es ++ n :: ns).map (CV.kill s)).length = es.length + (n :: ns).length := by cases i <;> simp
                                              rw [this]; exact hown', (hf.append hfn).killO hst, Nat.zero_le _⟩
              obtain ⟨A, c, e, _⟩ := row_form hown'
              exact ⟨_, _, v', w', hk, hrun, M, β', by rw [app_growC]; exact hrel, hb', A, _, c, e⟩
          · exact hk.elim
        · exact hk.elim
      · exact hk.elim
    · exact hk.elim
  · exact hk.elim
/-- what lies behind a row's end is turned to noughts: nothing that is told changes -/
def doClear (tbl : Tbl) (σ : St) (t : Nat) (x : Operand) : Tr Res :=
  match get tbl t with
  | some l =>
    match l.desc with
    | .slice e =>
      match get tbl e, ev σ x with
      | some _, .e (.c .nil) => .ret (.tup [], none)
      | some _, .e (.c (.d (.sl _ []))) => .ret (.tup [], none)
      | some le, .e (.c (.rv i 1 k n)) =>
        match get σ.objs i with
        | some (.vec T r es) => if le.size = 1 ∧ le.zero.oneCell' = true ∧ es.length ≤ k ∧ k + n ≤ max es.length r then .ret (.tup [], objC σ.objs i (.vec T r es)) else .fail
        | _ => .fail
      | _, _ => .fail
    | _ => .fail
  | none => .fail
theorem doClear_ok (ht : TblOk P tbl) (h : Rel w0 M0 M β σ a.tmps w) {t ty : Nat} {x : Operand} (hk : (doClear tbl σ t x).sat K) : Owes P w0 M0 σ K a.tmps w (Builtin.clear_ #[t] ty #[a.eval x]) := by
  unfold doClear at hk
  split at hk
  · rename_i l hl
    have hu := (ht t l hl).2
    split at hk
    · rename_i e hd
      rw [hd] at hu
      have hx := ev_ok h x
      split at hk
      · rename_i le hle he
        rw [he] at hx
        refine Owes.here h hk (v := .tuple #[]) ?_ ⟨#[], rfl, .nil⟩
        rw [show a.eval x = _ from hx]
        simp [Builtin.clear_, run_underlying hu]
      · rename_i le t' hle he
        rw [he] at hx
        have hd := (show DR M (.sl t' []) (a.eval x) from hx)
        obtain ⟨A, n, c, e⟩ := hd.slice
        rw [e] at hd
        have hn : n = 0 := (Flat.of_dr hd).1
        subst hn
        refine Owes.here h hk (v := .tuple #[]) ?_ ⟨#[], rfl, .nil⟩
        rw [e]
        cases A <;> simp [Builtin.clear_, run_underlying hu]
      · rename_i le i k n hle he
        rw [he] at hx
        split at hk
        · rename_i T r es ho
          split at hk
          · rename_i hc
            obtain ⟨hs1, hone, hk1, hk2⟩ := hc
            obtain ⟨g, m, cap, c, hb, hv, hnc, hcm, hcc⟩ := (show CVR M β (.rv i 1 k n) (a.eval x) from hx)
            obtain ⟨xs, hown, hf, hroom⟩ := vec_at h hb ho
            simp only [capOf] at hroom
            rcases hown.2 with ⟨h0, _⟩ | ⟨g', cap', cur, hv', hbg, hg, hnc', hcm', hcs, htk⟩
            · cases h0
            · cases hv'
              have hzc := cells_one hone
              have hz0 : Builtin.zeroCells le.zero.cells n = (List.replicate n le.zero).toArray := by
                rw [hzc]
                apply Array.ext'
                simp [Builtin.zeroCells]
                apply List.ext_getElem
                · simp
                · intro j h1 h2; simp [Nat.mod_one]
              have hst := run_storeCells_at P g k T (List.replicate n le.zero) 0 cur w hg (by simp; omega) (fun v hv => by rw [List.eq_of_mem_replicate hv]; exact hone)
              simp only [Nat.add_zero] at hst
              by_cases hn0 : n = 0
              · subst hn0
                refine ⟨_, _, .tuple #[], w, hk, ?_, M, β, ?_, #[], rfl, .nil⟩
                · rw [hv]; simp [Builtin.clear_, run_underlying hu]
                · rw [app_objC]
                  have e1 : cur = (cur.toList).toArray := by simp
                  have := h.vecWritten ho hb hf rfl hg (cur' := cur) rfl (by rw [Nat.mul_one] at htk; exact htk)
                  rwa [setRow_self w g cur T (0, 0) hg] at this
              · refine ⟨_, _, .tuple #[], w.setRow g (cur.toList.take k ++ List.replicate n le.zero ++ cur.toList.drop (k + (List.replicate n le.zero).length)).toArray, hk, ?_, M, β, ?_, #[], rfl, .nil⟩
                · rw [hv]
                  simp [Builtin.clear_, run_underlying hu, zero_run ht hle w, hz0, hn0]
                  rw [hst]
                  simp
                · rw [app_objC]
                  refine h.vecWritten ho hb hf rfl hg ?_ ?_
                  · simp; omega
                  · rw [Nat.mul_one] at htk
                    rw [← htk]
                    simp
                    rw [List.take_append_of_le_length (by simp; omega), List.take_take, Nat.min_eq_left hk1]
          · exact hk.elim
        · exact hk.elim
      · exact hk.elim
    · exact hk.elim
  · exact hk.elim
/-- the room of a slice: of the nil one alone -/
def doCap (tbl : Tbl) (σ : St) (t : Nat) (x : Operand) : Tr Res :=
  match get tbl t with
  | some l =>
    match l.desc, ev σ x with
    | .slice _, .e (.c .nil) => .ret (SV.of (.int .i64 0), none)
    | _, _ => .fail
  | none => .fail
theorem doCap_ok (ht : TblOk P tbl) (h : Rel w0 M0 M β σ a.tmps w) {t ty : Nat} {x : Operand} (hk : (doCap tbl σ t x).sat K) : Owes P w0 M0 σ K a.tmps w (Builtin.cap_ #[t] ty #[a.eval x]) := by
  unfold doCap at hk
  split at hk
  · rename_i l hl
    have hu := (ht t l hl).2
    have hx := ev_ok h x
    split at hk
    · rename_i e hd he
      rw [hd] at hu
      rw [he] at hx
      refine Owes.here h hk (v := .int .i64 0) ?_ (SVR.of rfl)
      rw [show a.eval x = _ from hx]
      simp [Builtin.cap_, run_underlying hu, goInt]
    · exact hk.elim
  · exact hk.elim
/-- append: of what there is, or of so many noughts -/
def doAppends (tbl : Tbl) (σ : St) (s t u : Nat) (x y : Operand) : Tr Res :=
  match get tbl u with
  | some lu =>
    match lu.desc with
    | .int _ => doAppendZ tbl σ s t u x y
    | .slice e => match get tbl e with
      | some le => match le.ty with | none => doAppendV tbl σ s t u x y | some _ => doAppend tbl σ s t u x y
      | none => .fail
    | _ => doAppend tbl σ s t u x y
  | none => .fail
theorem doAppends_ok (ht : TblOk P tbl) (h : Rel w0 M0 M β σ a.tmps w) {s t u ty : Nat} {x y : Operand} (hk : (doAppends tbl σ s t u x y).sat K) :
    Owes P w0 M0 σ K a.tmps w (Builtin.append_ #[t, u] ty #[a.eval x, a.eval y]) := by
  unfold doAppends at hk
  split at hk
  · split at hk
    · exact doAppendZ_ok ht h hk
    · split at hk
      · split at hk
        · exact doAppendV_ok ht h hk
        · exact doAppend_ok ht h hk
      · exact hk.elim
    · exact doAppend_ok ht h hk
  · exact hk.elim

/-- where a copy goes: a row, from which element on, how many -/
structure VW where
  i : Nat
  k : Nat
  n : Nat
  T : TypeId
  t : Ty
  l : List t.El
def viewOf (σ : St) (x : Operand) : Option VW :=
  match ev σ x with
  | .e (.c (.row i)) =>
    match get σ.objs i with
    | some (.row t T l) => some ⟨i, 0, l.length, T, t, l⟩
    | _ => none
  | .e (.c (.rv i sz k n)) =>
    match get σ.objs i with
    | some (.row t T l) => if sz = t.sz then some ⟨i, k, n, T, t, l⟩ else none
    | _ => none
  | _ => none
def doCopy (tbl : Tbl) (σ : St) (t u : Nat) (x y : Operand) : Tr Res :=
  match get tbl t with
  | some l =>
    match l.desc with
    | .slice e =>
      match get tbl e with
      | some le =>
        match viewOf σ x with
        | some ⟨i, k, n, T, ty, es⟩ =>
          match srcOf tbl σ ty u y with
          | some ns =>
            if ty.sz = le.size then
              Tr.need (inside σ (ev σ y)) (Tr.need (decide (k + min ns.length n ≤ es.length))
                (.ret (SV.of (.int .i64 (min ns.length n : Nat)), objC σ.objs i (.row ty T (es.take k ++ ns.take (min ns.length n) ++ es.drop (k + min ns.length n))))))
            else .fail
          | none => .fail
        | none => .fail
      | none => .fail
    | _ => .fail
  | none => .fail
theorem doCopy_ok (ht : TblOk P tbl) (h : Rel w0 M0 M β σ a.tmps w) {t u ty : Nat} {x y : Operand} (hk : (doCopy tbl σ t u x y).sat K) :
    Owes P w0 M0 σ K a.tmps w (Builtin.copy_ #[t, u] ty #[a.eval x, a.eval y]) := by
  unfold doCopy at hk
  split at hk
  · rename_i l hl
    have hut := (ht t l hl).2
    split at hk
    · rename_i e hd
      rw [hd] at hut
      split at hk
      · rename_i le hle
        split at hk
        · rename_i i k n T tt es hview
          split at hk
          · rename_i ns hsrc
            split at hk
            · rename_i hts
              obtain ⟨hin, hk'⟩ := Tr.sat_need hk
              clear hk
              obtain ⟨hfit, hk⟩ := Tr.sat_need hk'
              clear hk'
              simp only [decide_eq_true_eq] at hfit
              obtain ⟨du, news, hu, hdu, hfn, hlen, hfc⟩ := srcOf_ok ht h hsrc hin
              have hx := ev_ok h x
              generalize hm : min ns.length n = m at hk hfit
              have hmn : m ≤ ns.length := by omega
              have hnl := hfn.length
              rw [rows_len] at hnl
              have hfcm := hfc m hmn w rfl
              have hszo : (sizeOf e).run P w = .ok tt.sz w := by rw [hts]; exact sizeOf_ok ht hle w
              -- the row
              obtain ⟨ho, hslice⟩ : get σ.objs i = some (.row tt T es) ∧ ((es = [] ∧ m = 0 ∧ n = 0 ∧ k = 0 ∧ a.eval x = .slice none 0 0) ∨ ∃ g m' cap c, β i = some (.inr (.slice (some ⟨g, 0, none⟩) m' cap)) ∧ a.eval x = .slice (some ⟨g, k * tt.sz, none⟩) n c) := by
                unfold viewOf at hview
                split at hview
                · rename_i k' he
                  rw [he] at hx
                  split at hview
                  · rename_i t' T' es' ho
                    cases hview
                    have hb := (show CVR M β (.row _) (a.eval x) from hx).1
                    obtain ⟨xs, hown, _⟩ := row_at h hb ho
                    refine ⟨ho, ?_⟩
                    rcases hown.2 with ⟨hv, h0⟩ | ⟨g, cap, cur, hv, _⟩
                    · have : es = [] := List.eq_nil_of_length_eq_zero h0
                      subst this
                      exact .inl ⟨rfl, by simp at hm; omega, rfl, rfl, by rw [hv]⟩
                    · exact .inr ⟨g, _, cap, cap, by rw [← hv]; exact hb, by rw [hv, Nat.zero_mul]⟩
                  · cases hview
                · rename_i k' sz' o q he
                  rw [he] at hx
                  split at hview
                  · rename_i t' T' es' ho
                    split at hview
                    · rename_i hsz
                      cases hview
                      subst hsz
                      obtain ⟨g, m', cap, c, hb, hv, _⟩ := (show CVR M β (.rv _ _ _ _) (a.eval x) from hx)
                      exact ⟨ho, .inr ⟨g, m', cap, c, hb, hv⟩⟩
                    · cases hview
                  · cases hview
                · cases hview
              have hres : ∀ (b : Option Addr) (c : Nat) (w' : World), a.eval x = .slice b n c → (match b with | some ad => (storeCells ad ((news.take (m * tt.sz)).toArray).toList).run P w = .ok () w' | none => w' = w) →
                  (Builtin.copy_ #[t, u] ty #[a.eval x, a.eval y]).run P w = .ok (.int .i64 (m : Nat)) w' := by
                intro b c w' hv hst
                rw [hv]
                have hmm : Nat.min ns.length n = m := hm
                cases b with
                | none =>
                  subst hst
                  simp [Builtin.copy_, run_underlying hut, hlen, hmm, hszo, hfcm, goInt]
                | some ad =>
                  have hst' : (storeCells ad (news.take (m * tt.sz))).run P w = .ok () w' := hst
                  simp [Builtin.copy_, run_underlying hut, hlen, hmm, hszo, hfcm, hst', goInt]
              rcases hslice with ⟨rfl, rfl, rfl, rfl, hv⟩ | ⟨g, m', cap, c, hb, hv⟩
              · refine ⟨_, _, .int .i64 (0 : Nat), w, hk, hres none 0 w hv rfl, M, β, ?_, SVR.of rfl⟩
                have e1 : ([] : List tt.El).take 0 ++ ns.take 0 ++ ([] : List tt.El).drop (0 + 0) = [] := by simp
                rw [e1]
                rw [app_objC]
                refine h.less (Nat.le_refl _) (fun s x hs => .inr hs) (fun j o hj => ?_)
                simp only [St.obj, get_put] at hj
                split at hj
                · rename_i e; subst e; cases hj; exact ho
                · exact hj
              · obtain ⟨xs, hown, hf⟩ := row_at h hb ho
                rcases hown.2 with ⟨h0, _⟩ | ⟨g', cap', cur, hv', hbg, hg, hnc, hcm, hcs, htk⟩
                · cases h0
                · cases hv'
                  have hsplit := (hfn.split m).1
                  have hul := hsplit.length
                  have hml : ((rows tt ns).take m).length = m := by rw [List.length_take, rows_len]; omega
                  rw [hml] at hul
                  have hbound : k * tt.sz + m * tt.sz ≤ es.length * tt.sz := by
                    have := Nat.mul_le_mul_right tt.sz hfit
                    rw [Nat.add_mul] at this; exact this
                  have hcap : es.length * tt.sz ≤ cur.size := by rw [hcs]; exact Nat.mul_le_mul_right _ hnc
                  have hst := run_storeCells_at P g (k * tt.sz) T (news.take (m * tt.sz)) 0 cur w hg (by rw [hul]; omega) hsplit.one
                  simp only [Nat.add_zero] at hst
                  have hover := hf.over hsplit k
                  rw [hml] at hover
                  have hrows : rows tt (es.take k ++ ns.take m ++ es.drop (k + m)) = (rows tt es).take k ++ (rows tt ns).take m ++ (rows tt es).drop (k + m) := by
                    rw [rows_append, rows_append, rows_take, rows_take, rows_drop]
                  rw [← hrows] at hover
                  refine ⟨_, _, .int .i64 (m : Nat), _, hk, hres _ c _ hv hst, M, β, h.rowWritten ho hb hover (by simp; omega) hg ?_ ?_, SVR.of rfl⟩
                  · simp only [List.size_toArray, List.length_append, List.length_take, List.length_drop, Array.length_toList]
                    rw [List.length_take] at hul
                    omega
                  · have := splice_toArray_take cur (k * tt.sz) (es.length * tt.sz) (news.take (m * tt.sz)) (by rw [hul]; exact hbound) hcap
                    unfold splice at this
                    rw [this, htk]
            · exact hk.elim
          · exact hk.elim
        · exact hk.elim
      · exact hk.elim
    · exact hk.elim
  · exact hk.elim
end
end Go.Proofs.YtjebfbkigkjboaaGreatDoor.Sy

/- The calculus, eleventh part: two structs held against each other, a pointer against nil; what a call is told. -/
namespace Go.Proofs.YtjebfbkigkjboaaGreatDoor.Sy
open Go.RowKit Kit

section
variable {P : Program} {tbl : Tbl} {w0 : Base} {w : World} {M0 M : Snap} {β : Plc} {σ : St} {a : Act} {K : Res → Prop}

def isIn : List Nat → Nat → Bool
  | [], _ => false
  | j :: r, k => if j = k then true else isIn r k
theorem isIn_mem {l : List Nat} {k : Nat} (h : isIn l k = true) : k ∈ l := by
  induction l with
  | nil => cases h
  | cons j r ih =>
    simp only [isIn] at h
    split at h
    · rename_i e; subst e; exact List.mem_cons_self ..
    · exact List.mem_cons_of_mem _ (ih h)
def FlatOk (P : Program) (l : List Nat) : Prop := ∀ t ∈ l, P.eqGuardType P.depth t = false ∧ P.stoodInHeld t = false
theorem FlatOk.nil (P : Program) : FlatOk P [] := fun _ h => by simp at h
theorem FlatOk.cons {P : Program} {t : Nat} {l : List Nat} (h1 : P.eqGuardType P.depth t = false) (h2 : P.stoodInHeld t = false) (h : FlatOk P l) : FlatOk P (t :: l) := fun u hu => by
  rcases List.mem_cons.1 hu with rfl | hu
  · exact ⟨h1, h2⟩
  · exact h u hu

def CV.val : CV → Option Value
  | .d (.v x) => some x
  | .kb b => some (.bool b)
  | _ => none
theorem CVR.val {x : CV} {v u : Value} (h : CVR M β x v) (hx : x.val = some u) : v = u ∧ scalar u = true := by
  unfold CV.val at hx
  split at hx
  · cases hx
    cases (show DR M (.v u) v from h) with
    | v h => exact ⟨rfl, h⟩
  · cases hx; exact ⟨h, rfl⟩
  · cases hx
/-- one field -/
def eqV : TypeDesc → Value → Value → Option Bool
  | .int _, .int k a, .int k' b => if k = k' then some (a == b) else none
  | .bool, .bool a, .bool b => some (a == b)
  | .string, .string a, .string b => some (decide (a = b))
  | _, _, _ => none
def eqFl (tbl : Tbl) (xs ys : List CV) : List Field → Option Bool
  | [] => some true
  | f :: fs =>
    if f.name = "_" then none else
    match get tbl f.type, (xs.getD f.offset .any).val, (ys.getD f.offset .any).val, eqFl tbl xs ys fs with
    | some l, some u, some v, some r =>
      match eqV l.desc u v with
      | some b => some (b && r)
      | none => none
    | _, _, _, _ => none
theorem CVs.at_ {l : List CV} {vs : List Value} (h : CVs M β l vs) : ∀ {j : Nat} {x : CV}, l[j]? = some x → ∃ u, vs[j]? = some u ∧ CVR M β x u := by
  induction h with
  | nil => intro j x hx; simp at hx
  | cons h1 _ _ ih =>
    intro j x hx
    cases j with
    | zero => simp at hx; subst hx; exact ⟨_, rfl, h1⟩
    | succ j => exact ih (j := j) (by simpa using hx)
theorem val_at {xs : List CV} {us : List Value} (h : CVs M β xs us) {off : Nat} {u : Value} (hv : (xs.getD off .any).val = some u) : us[off]? = some u ∧ scalar u = true := by
  cases e : xs[off]? with
  | none => simp [List.getD, e, CV.val] at hv
  | some x =>
    simp [List.getD, e] at hv
    obtain ⟨u', hu, hr⟩ := h.at_ e
    obtain ⟨e1, hs⟩ := hr.val hv
    subst e1
    exact ⟨hu, hs⟩
theorem eqV_ok (ht : TblOk P tbl) {t : Nat} {l : Lay} (hl : get tbl t = some l) {u v : Value} {b : Bool} (h : eqV l.desc u v = some b) (d : Nat) : isAggD l.desc = false ∧ (Op.equalIn (d + 1) t u v).run P w = .ok b w := by
  have hu := (ht t l hl).2
  generalize l.desc = e at hu h
  unfold eqV at h
  split at h
  · split at h
    · rename_i hk; subst hk; cases h; exact ⟨rfl, run_equalIn_int w d t _ _ _ _ hu⟩
    · cases h
  · cases h; exact ⟨rfl, run_equalIn_bool' w d t _ _ hu⟩
  · cases h; exact ⟨rfl, by rw [run_equalIn_string w d t _ _ hu, toList_beq]⟩
  · cases h
theorem eqFl_ok (ht : TblOk P tbl) {xs ys : List CV} {us vs : Array Value} (hx : CVs M β xs us.toList) (hy : CVs M β ys vs.toList) (d : Nat) : ∀ {fs : List Field} {b : Bool}, eqFl tbl xs ys fs = some b → (Op.eqFields (d + 1) us vs fs).run P w = .ok b w := by
  intro fs
  induction fs with
  | nil => intro b h; cases h; simp [Op.eqFields]
  | cons f fs ih =>
    intro b h
    simp only [eqFl] at h
    split at h
    · cases h
    · rename_i hn
      split at h
      · rename_i l u v r hl hu hv hr
        split at h
        · rename_i c hc
          cases h
          obtain ⟨h1, _⟩ := val_at hx hu
          obtain ⟨h2, _⟩ := val_at hy hv
          obtain ⟨hd, he⟩ := eqV_ok (w := w) ht hl hc d
          have p1 := part_ok (w := w) ht hl hd (cs := us) (by simpa using h1)
          have p2 := part_ok (w := w) ht hl hd (cs := vs) (by simpa using h2)
          cases c with
          | true => simp [Op.eqFields, hn, p1, p2, he, ih hr]
          | false => simp [Op.eqFields, hn, p1, p2, he]
        · cases h
      · cases h

/-- whether a reference is nil -/
def isNilS (σ : St) : CV → Tr Bool
  | .nilp | .nil | .nilm => .ret true
  | .dp _ | .np _ _ | .rp _ _ _ _ | .mp _ | .rv _ _ _ _ => .ret false
  | .d (.sl _ l) => .ite l.isEmpty (.both (.ret true) (.ret false)) (.ret false)
  | .row i =>
    match get σ.objs i with
    | some (.row _ _ l) => .ite l.isEmpty (.both (.ret true) (.ret false)) (.ret false)
    | some (.vec _ r l) => bif l.isEmpty && r == 0 then .both (.ret true) (.ret false) else .ret false
    | _ => .fail
  | _ => .fail
def isNilC : CV → TypeDesc → Bool
  | .nilp, .pointer _ => true
  | .nil, .slice _ => true
  | .nilm, .map _ _ => true
  | _, _ => false
inductive NilOf : TypeDesc → Value → Bool → Prop
  | p (e : TypeId) (a : Option Addr) : NilOf (.pointer e) (.pointer a) a.isNone
  | s (e : TypeId) (a : Option Addr) (n c : Nat) : NilOf (.slice e) (.slice a n c) a.isNone
  | m (k e : TypeId) (r : Option Nat) : NilOf (.map k e) (.map r) r.isNone
def nilV : Value → Option Bool
  | .pointer p => some p.isNone
  | .slice A _ _ => some A.isNone
  | .map r => some r.isNone
  | _ => none
theorem isNilS_slice {α : Type} {l : List α} {A : Option Addr} (h : l ≠ [] → ∃ ad, A = some ad) {K : Bool → Prop} (hk : (Tr.ite l.isEmpty (.both (.ret true) (.ret false)) (.ret false)).sat K) : K A.isNone := by
  cases l with
  | nil =>
    have := hk.1 rfl
    cases A with
    | none => exact this.1
    | some => exact this.2
  | cons x l =>
    obtain ⟨ad, rfl⟩ := h (by simp)
    exact hk.2 rfl
theorem isNilS_ok (h : Rel w0 M0 M β σ a.tmps w) {c : CV} {v : Value} (hx : CVR M β c v) {d : TypeDesc} (hd : (∃ e, d = .pointer e ∧ ∃ p, v = .pointer p) ∨ (∃ e, d = .slice e ∧ ∃ A n c, v = .slice A n c) ∨ ∃ k e, d = .map k e ∧ ∃ r, v = .map r) {K : Bool → Prop} (hk : (isNilS σ c).sat K) : ∃ b, K b ∧ NilOf d v b := by
  have key : ∀ b, K b → nilV v = some b → ∃ b, K b ∧ NilOf d v b := fun b hK hv => by
    rcases hd with ⟨e, rfl, p, rfl⟩ | ⟨e, rfl, A, n, c, rfl⟩ | ⟨k, e, rfl, r, rfl⟩
    · cases hv; exact ⟨_, hK, .p e p⟩
    · cases hv; exact ⟨_, hK, .s e A n c⟩
    · cases hv; exact ⟨_, hK, .m k e r⟩
  unfold isNilS at hk
  split at hk
  · exact key true hk (by rw [show v = _ from hx]; rfl)
  · exact key true hk (by rw [show v = _ from hx]; rfl)
  · exact key true hk (by rw [show v = _ from hx]; rfl)
  · obtain ⟨ad, us, e, _⟩ := hx; exact key false hk (by rw [e]; rfl)
  · obtain ⟨b, _, e⟩ := hx; exact key false hk (by rw [e]; rfl)
  · obtain ⟨g, m, c, _, e⟩ := hx; exact key false hk (by rw [e]; rfl)
  · obtain ⟨b, _, e⟩ := hx; exact key false hk (by rw [e]; rfl)
  · obtain ⟨g, m, cap, c, _, e, _⟩ := hx; exact key false hk (by rw [e]; rfl)
  · rename_i t l
    obtain ⟨A, n, c, rfl⟩ := DR.slice (show DR M (.sl t l) v from hx)
    obtain ⟨_, _, _, xs, _, hA⟩ := Flat.of_dr (show DR M (.sl t l) _ from hx)
    exact key A.isNone (isNilS_slice (fun hn => by obtain ⟨ad, e, _⟩ := hA hn; exact ⟨ad, e⟩) hk) rfl
  · rename_i i
    split at hk
    · rename_i t T l ho
      obtain ⟨xs, hown, _⟩ := row_at h (show CVR M β (.row i) v from hx).1 ho
      rcases hown.2 with ⟨rfl, h0⟩ | ⟨g, cap, cur, rfl, _⟩
      · have : l = [] := List.eq_nil_of_length_eq_zero h0
        exact key _ (isNilS_slice (A := none) (fun hn => absurd this hn) hk) rfl
      · exact key _ (isNilS_slice (A := some ⟨g, 0, none⟩) (fun _ => ⟨_, rfl⟩) hk) rfl
    · rename_i T r l ho
      obtain ⟨xs, hown, _, hroom⟩ := vec_at h (show CVR M β (.row i) v from hx).1 ho
      have hbf : (bif l.isEmpty && r == 0 then (.both (.ret true) (.ret false) : Tr Bool) else .ret false).sat K := hk
      rcases hown.2 with ⟨rfl, h0⟩ | ⟨g, cap, cur, rfl, _⟩
      · have hl : l = [] := List.eq_nil_of_length_eq_zero h0
        have hr : r = 0 := by simpa [capOf] using hroom
        subst hl; subst hr
        exact key true hbf.1 rfl
      · refine key false ?_ rfl
        cases hb : (l.isEmpty && r == 0) with
        | true => rw [hb] at hbf; exact hbf.2
        | false => rw [hb] at hbf; exact hbf
    · exact hk.elim
  · exact hk.elim
theorem isNilC_ok {c : CV} {v : Value} (hx : CVR M β c v) {d : TypeDesc} (h : isNilC c d = true) : (∃ e, d = .pointer e ∧ v = .pointer none) ∨ (∃ e, d = .slice e ∧ v = .slice none 0 0) ∨ ∃ k e, d = .map k e ∧ v = .map none := by
  unfold isNilC at h
  split at h
  · exact .inl ⟨_, rfl, hx⟩
  · exact .inr (.inl ⟨_, rfl, hx⟩)
  · exact .inr (.inr ⟨_, _, rfl, hx⟩)
  · cases h
/-- a reference of that form of type -/
def refD : CV → TypeDesc → Bool
  | .nilp, .pointer _ | .dp _, .pointer _ | .np _ _, .pointer _ | .rp _ _ _ _, .pointer _ => true
  | .nil, .slice _ | .row _, .slice _ | .rv _ _ _ _, .slice _ | .d (.sl _ _), .slice _ => true
  | .nilm, .map _ _ | .mp _, .map _ _ => true
  | _, _ => false
theorem refD_ok {c : CV} {v : Value} (hx : CVR M β c v) {d : TypeDesc} (h : refD c d = true) : (∃ e, d = .pointer e ∧ ∃ p, v = .pointer p) ∨ (∃ e, d = .slice e ∧ ∃ A n c, v = .slice A n c) ∨ ∃ k e, d = .map k e ∧ ∃ r, v = .map r := by
  unfold refD at h
  split at h
  · exact .inl ⟨_, rfl, _, hx⟩
  · obtain ⟨ad, us, e, _⟩ := hx; exact .inl ⟨_, rfl, _, e⟩
  · obtain ⟨b, _, e⟩ := hx; exact .inl ⟨_, rfl, _, e⟩
  · obtain ⟨g, m, c, _, e⟩ := hx; exact .inl ⟨_, rfl, _, e⟩
  · exact .inr (.inl ⟨_, rfl, _, _, _, hx⟩)
  · exact .inr (.inl ⟨_, rfl, hx.2⟩)
  · obtain ⟨g, m, cap, c, _, e, _⟩ := hx; exact .inr (.inl ⟨_, rfl, _, _, _, e⟩)
  · exact .inr (.inl ⟨_, rfl, DR.slice hx⟩)
  · exact .inr (.inr ⟨_, _, rfl, _, hx⟩)
  · obtain ⟨b, _, e⟩ := hx; exact .inr (.inr ⟨_, _, rfl, _, e⟩)
  · cases h
def doNilT (tbl : Tbl) (σ : St) (op : BinOp) (t : TypeId) (x y : CV) : Tr Res :=
  match get tbl t with
  | some l =>
    if isNilC y l.desc && refD x l.desc then
      match op with
      | .eql => (isNilS σ x).bind fun b => .ret (SV.of (.bool b), none)
      | .neq => (isNilS σ x).bind fun b => .ret (SV.of (.bool (!b)), none)
      | _ => .fail
    else .fail
  | none => .fail
theorem run_equalIn_map_nil {t k e : TypeId} (hu : P.underlying t = some (.map k e)) (d : Nat) (r : Option Nat) : (Op.equalIn (d + 1) t (.map r) (.map none)).run P w = .ok r.isNone w := by
  cases r <;> simp [Op.equalIn, run_underlying hu]
theorem run_equal_map_nil {t k e : TypeId} (hu : P.underlying t = some (.map k e)) (r : Option Nat) : (Op.equal t (.map r) (.map none)).run P w = .ok r.isNone w := run_equalIn_map_nil hu 9999 r
theorem run_eql_map_nil {t k e : TypeId} (hu : P.underlying t = some (.map k e)) (r : Option Nat) : (binOp .eql t (.map r) (.map none)).run P w = .ok (.bool r.isNone) w := by
  simp only [binOp]
  simp [run_equal_map_nil hu]
theorem run_neq_map_nil {t k e : TypeId} (hu : P.underlying t = some (.map k e)) (r : Option Nat) : (binOp .neq t (.map r) (.map none)).run P w = .ok (.bool (!r.isNone)) w := by
  simp only [binOp]
  simp [run_equal_map_nil hu]
theorem run_eql_slice_nil' {t e : TypeId} (hu : P.underlying t = some (.slice e)) (A : Option Addr) (n c : Nat) : (binOp .eql t (.slice A n c) (.slice none 0 0)).run P w = .ok (.bool A.isNone) w := by
  simp only [binOp]
  simp [run_equal_slice_nil w t e A n c hu]
theorem run_nil {t : TypeId} {d : TypeDesc} (hu : P.underlying t = some d) {v z : Value} {b : Bool} (hv : NilOf d v b) (hz : (∃ e, d = .pointer e ∧ z = .pointer none) ∨ (∃ e, d = .slice e ∧ z = .slice none 0 0) ∨ ∃ k e, d = .map k e ∧ z = .map none) (x y : Operand) :
    (do eqGuard .eql t x y v z; binOp .eql t v z : Sem Value).run P w = .ok (.bool b) w ∧ (do eqGuard .neq t x y v z; binOp .neq t v z : Sem Value).run P w = .ok (.bool (!b)) w := by
  cases hv with
  | p e a =>
    rcases hz with ⟨_, _, rfl⟩ | ⟨_, h, _⟩ | ⟨_, _, h, _⟩
    · have hp : P.underlying t = some (.pointer (P.pointee t)) := by simp [Program.pointee, hu]
      exact ⟨by rw [eqGuard_at_pointer]; simp [run_eql_pointer_nil w t a hp], by rw [eqGuard_at_pointer]; simp [run_neq_pointer_nil w t a hp]⟩
    · cases h
    · cases h
  | s e a n c =>
    rcases hz with ⟨_, h, _⟩ | ⟨_, _, rfl⟩ | ⟨_, _, h, _⟩
    · cases h
    · exact ⟨by rw [eqGuard_at_slice]; simp [run_eql_slice_nil' hu], by rw [eqGuard_at_slice]; simp [run_neq_slice_nil w t e a n c hu]⟩
    · cases h
  | m k e r =>
    rcases hz with ⟨_, h, _⟩ | ⟨_, h, _⟩ | ⟨_, _, _, rfl⟩
    · cases h
    · cases h
    · exact ⟨by rw [eqGuard_at_map]; simp [run_eql_map_nil hu], by rw [eqGuard_at_map]; simp [run_neq_map_nil hu]⟩
theorem doNilT_ok (ht : TblOk P tbl) (h : Rel w0 M0 M β σ a.tmps w) {op : BinOp} {t : TypeId} {x y : Operand} {cx cy : CV} (hx : ev σ x = .e (.c cx)) (hy : ev σ y = .e (.c cy)) (hk : (doNilT tbl σ op t cx cy).sat K) :
    Owes P w0 M0 σ K a.tmps w (do eqGuard op t x y (a.eval x) (a.eval y); binOp op t (a.eval x) (a.eval y)) := by
  have hvx := ev_ok h x
  have hvy := ev_ok h y
  rw [hx] at hvx; rw [hy] at hvy
  unfold doNilT at hk
  split at hk
  · rename_i l hl
    have hu := (ht t l hl).2
    split at hk
    · rename_i hc
      simp only [Bool.and_eq_true] at hc
      have hz := isNilC_ok (show CVR M β cy _ from hvy) hc.1
      have hr := refD_ok (show CVR M β cx _ from hvx) hc.2
      split at hk
      · obtain ⟨b, hb, hn⟩ := isNilS_ok h (show CVR M β cx _ from hvx) hr (Tr.sat_bind hk)
        exact Owes.here h hb (run_nil hu hn hz x y).1 (SVR.of rfl)
      · obtain ⟨b, hb, hn⟩ := isNilS_ok h (show CVR M β cx _ from hvx) hr (Tr.sat_bind hk)
        exact Owes.here h hb (run_nil hu hn hz x y).2 (SVR.of rfl)
      · exact hk.elim
    · exact hk.elim
  · exact hk.elim

def isNilV : CV → Bool
  | .nil | .nilp | .nilm => true
  | _ => false
def doBinG (tbl : Tbl) (fl : List Nat) (σ : St) (op : BinOp) (t : TypeId) (x y : Operand) : Tr Res :=
  match ev σ x, ev σ y with
  | .e (.agg xs), .e (.agg ys) =>
    match get tbl t with
    | some l =>
      match l.desc with
      | .struct fs =>
        if isIn fl t then
          match op, eqFl tbl xs ys fs.toList with
          | .eql, some b => .ret (SV.of (.bool b), none)
          | .neq, some b => .ret (SV.of (.bool (!b)), none)
          | _, _ => .fail
        else .fail
      | _ => .fail
    | none => .fail
  | .e (.c cx), .e (.c cy) => if isNilV cy then doNilT tbl σ op t cx cy else doBin tbl σ op t x y
  | _, _ => .fail
theorem doBinG_ok (ht : TblOk P tbl) {fl : List Nat} (hf : FlatOk P fl) (h : Rel w0 M0 M β σ a.tmps w) {op : BinOp} {t : TypeId} {x y : Operand} (hk : (doBinG tbl fl σ op t x y).sat K) :
    Owes P w0 M0 σ K a.tmps w (do eqGuard op t x y (a.eval x) (a.eval y); binOp op t (a.eval x) (a.eval y)) := by
  have hx := ev_ok h x
  have hy := ev_ok h y
  unfold doBinG at hk
  split at hk
  · rename_i xs ys e1 e2
    rw [e1] at hx; rw [e2] at hy
    obtain ⟨us, ex, hus⟩ := hx
    obtain ⟨vs, ey, hvs⟩ := hy
    split at hk
    · rename_i l hl
      have hu := (ht t l hl).2
      split at hk
      · rename_i fs hd
        rw [hd] at hu
        split at hk
        · rename_i hc
          obtain ⟨g1, g2⟩ := hf t (isIn_mem hc)
          have hp : P.fieldsOf t = fs := by simp [Program.fieldsOf, hu]
          have hs : P.underlying t = some (.struct (P.fieldsOf t)) := by rw [hp]; exact hu
          rw [ex, ey]
          split at hk
          · rename_i b he
            have hrun := eqFl_ok (w := w) ht hus hvs 9998 he
            exact Owes.here h hk (by simp [run_eqGuard_agg w _ t _ _ _ _ g1, run_eql_struct, run_equalIn_struct w 9999 t us vs hs g2, hp, hrun]) (SVR.of rfl)
          · rename_i b he
            have hrun := eqFl_ok (w := w) ht hus hvs 9998 he
            exact Owes.here h hk (by simp [run_eqGuard_agg w _ t _ _ _ _ g1, run_neq_struct, run_equalIn_struct w 9999 t us vs hs g2, hp, hrun]) (SVR.of rfl)
          · exact hk.elim
        · exact hk.elim
      · exact hk.elim
    · exact hk.elim
  · rename_i cx cy e1 e2
    split at hk
    · exact doNilT_ok ht h e1 e2 hk
    · exact doBin_ok ht h hk
  · exact hk.elim

/-! ### what a call is told, and what it tells -/
def noPlc : Plc := fun _ => none
inductive SVRs (M : Snap) (β : Plc) : List SV → List Value → Prop
  | nil : SVRs M β [] []
  | cons {x u xs us} : SVR M β x u → SVRs M β xs us → SVRs M β (x :: xs) (u :: us)
/-- what a function answers, by what it is told and what it is lent; and what becomes of that -/
abbrev Ctr := List SV → St → Tr (SV × St)
def Entered (P : Program) (f : Nat) : Prop := ∃ fn c, P.funcs[f]? = some fn ∧ (fn.name == "runtime.NumGoroutine") = false ∧ fn.body = some c
/-- nothing but what is lent -/
def St.bare (τ : St) : Prop := τ.n = 0
def CtrOk (P : Program) (f : Nat) (F : Ctr) : Prop :=
  Entered P f ∧ ∀ (b : Base) (M : Snap) (β : Plc) (τ : St) (xs : List SV) (vs : List Value), Rel b M M β τ #[] b.toWorld → SVRs M β xs vs → ∀ K : SV × St → Prop, (F xs τ).sat K →
    Calls P f vs.toArray b.toWorld fun e w' => ∃ x τ' v M' β', K (x, τ') ∧ e = .returned v ∧ SVR M' β' x v ∧ Rel b M M' β' τ' #[] w'
def GOk (P : Program) (Γ : List (Nat × Ctr)) : Prop := ∀ f F, get Γ f = some F → CtrOk P f F
theorem GOk.nil (P : Program) : GOk P [] := fun _ _ h => by cases h
theorem GOk.cons {P : Program} {f : Nat} {F : Ctr} {Γ : List (Nat × Ctr)} (h1 : CtrOk P f F) (h : GOk P Γ) : GOk P ((f, F) :: Γ) := by
  intro g G hg
  simp only [get] at hg
  split at hg
  · rename_i e; subst e; cases hg; exact h1
  · exact h g G hg
end
end Go.Proofs.YtjebfbkigkjboaaGreatDoor.Sy

/- The calculus, twelfth part: what is lent to a call, and what is taken back. -/
namespace Go.Proofs.YtjebfbkigkjboaaGreatDoor.Sy
open Go.RowKit Kit

/-! ### own blocks under other numbers -/
def CV.ren (f : Nat → Option Nat) : CV → CV
  | .np j o => match f j with | some k => .np k o | none => .any
  | .row j => match f j with | some k => .row k | none => .any
  | .rp j sz e c => match f j with | some k => .rp k sz e c | none => .any
  | .rv j sz e n => match f j with | some k => .rv k sz e n | none => .any
  | .mp j => match f j with | some k => .mp k | none => .any
  | .cl j => match f j with | some k => .cl k | none => .any
  | x => x
def EV.ren (f : Nat → Option Nat) : EV → EV
  | .c x => .c (x.ren f)
  | .agg l => .agg (l.map (CV.ren f))
def SV.ren (f : Nat → Option Nat) : SV → SV
  | .e x => .e (x.ren f)
  | .tup l => .tup (l.map (EV.ren f))
def Ob.ren (f : Nat → Option Nat) : Ob → Ob
  | .cells T cs => .cells T (cs.map (CV.ren f))
  | .vec T r cs => .vec T r (cs.map (CV.ren f))
  | .fn g cs => .fn g (cs.map (CV.ren f))
  | o => o
section
variable {M M' : Snap} {β β' : Plc} {f : Nat → Option Nat}
theorem CVR.ren (hm : ∀ b o, M b = some o → M' b = some o) (hf : ∀ j k p, f j = some k → β j = some p → β' k = some p) {x : CV} {v : Value} (hr : CVR M β x v) : CVR M' β' (x.ren f) v := by
  cases x with
  | any => trivial
  | und => exact hr
  | d x => exact DR.mono hm hr
  | nil => exact hr
  | nilp => exact hr
  | nilm => exact hr
  | kb b => exact hr
  | dp cs => obtain ⟨ad, us, e, hc, hcell⟩ := hr; exact ⟨ad, us, e, hc.mono hm, fun j u hu => Snap.cell_mono hm (hcell j u hu)⟩
  | np j o =>
    simp only [CV.ren]
    split
    · rename_i k e; obtain ⟨b, hb, hv⟩ := hr; exact ⟨b, hf _ _ _ e hb, hv⟩
    · trivial
  | row j =>
    simp only [CV.ren]
    split
    · rename_i k e; exact ⟨hf _ _ _ e hr.1, hr.2⟩
    · trivial
  | rp j sz q c =>
    simp only [CV.ren]
    split
    · rename_i k e; obtain ⟨g, m, cap, hb, hv⟩ := hr; exact ⟨g, m, cap, hf _ _ _ e hb, hv⟩
    · trivial
  | rv j sz q n =>
    simp only [CV.ren]
    split
    · rename_i k e; obtain ⟨g, m, cap, c, hb, hv⟩ := hr; exact ⟨g, m, cap, c, hf _ _ _ e hb, hv⟩
    · trivial
  | mp j =>
    simp only [CV.ren]
    split
    · rename_i k e; obtain ⟨b, hb, hv⟩ := hr; exact ⟨b, hf _ _ _ e hb, hv⟩
    · trivial
  | cl j =>
    simp only [CV.ren]
    split
    · rename_i k e; exact ⟨hf _ _ _ e hr.1, hr.2⟩
    · trivial
theorem CVs.ren (hm : ∀ b o, M b = some o → M' b = some o) (hf : ∀ j k p, f j = some k → β j = some p → β' k = some p) {l : List CV} {vs : List Value} (hr : CVs M β l vs) : CVs M' β' (l.map (CV.ren f)) vs := by
  induction hr with
  | nil => exact .nil
  | cons h1 h2 _ ih => exact .cons (h1.ren hm hf) h2 ih
theorem EVR.ren (hm : ∀ b o, M b = some o → M' b = some o) (hf : ∀ j k p, f j = some k → β j = some p → β' k = some p) {x : EV} {v : Value} (hr : EVR M β x v) : EVR M' β' (x.ren f) v := by
  cases x with
  | c x => exact CVR.ren hm hf hr
  | agg l => obtain ⟨vs, e, hc⟩ := hr; exact ⟨vs, e, hc.ren hm hf⟩
theorem EVs.ren (hm : ∀ b o, M b = some o → M' b = some o) (hf : ∀ j k p, f j = some k → β j = some p → β' k = some p) {l : List EV} {vs : List Value} (hr : EVs M β l vs) : EVs M' β' (l.map (EV.ren f)) vs := by
  induction hr with
  | nil => exact .nil
  | cons h1 _ ih => exact .cons (h1.ren hm hf) ih
theorem SVR.ren (hm : ∀ b o, M b = some o → M' b = some o) (hf : ∀ j k p, f j = some k → β j = some p → β' k = some p) {x : SV} {v : Value} (hr : SVR M β x v) : SVR M' β' (x.ren f) v := by
  cases x with
  | e x => exact EVR.ren hm hf hr
  | tup l => obtain ⟨vs, e, hc⟩ := hr; exact ⟨vs, e, hc.ren hm hf⟩
theorem SVRs.ren (hm : ∀ b o, M b = some o → M' b = some o) (hf : ∀ j k p, f j = some k → β j = some p → β' k = some p) {l : List SV} {vs : List Value} (hr : SVRs M β l vs) : SVRs M' β' (l.map (SV.ren f)) vs := by
  induction hr with
  | nil => exact .nil
  | cons h1 _ ih => exact .cons (h1.ren hm hf) ih
theorem OR.ren (hm : ∀ b o, M b = some o → M' b = some o) (hf : ∀ j k p, f j = some k → β j = some p → β' k = some p) {w : World} {o : Ob} {p : Nat ⊕ Value} (hr : OR M β w o p) : OR M' β' w (o.ren f) p := by
  cases o <;> cases p <;> try exact hr.elim
  · obtain ⟨vs, e, hc⟩ := hr; exact ⟨vs, e, hc.ren hm hf⟩
  · obtain ⟨xs, e, hc⟩ := hr; exact ⟨xs, e, hc.mono hm⟩
  · obtain ⟨es, c, e, hc⟩ := hr; exact ⟨es, c, e, hc.mono hm⟩
  · obtain ⟨xs, e, hc, hroom⟩ := hr; exact ⟨xs, by simpa using e, hc.ren hm hf, hroom⟩
  · obtain ⟨cs, e, hc⟩ := hr; exact ⟨cs, e, hc.ren hm hf⟩
end

/-! ### many forgotten at once -/
def kills : List Nat → St → St
  | [], σ => σ
  | k :: ks, σ => kills ks (σ.kill k)
def killOb : List Nat → List (Nat × Ob) → List (Nat × Ob)
  | [], ob => ob
  | k :: ks, ob => killOb ks (mapv (Ob.kill k) (del ob k))
def dels : List Nat → List (Nat × Ob) → List (Nat × Ob)
  | [], ob => ob
  | k :: ks, ob => dels ks (del ob k)
theorem kills_env : ∀ (ks : List Nat) (σ : St), (kills ks σ).env = killEnv ks σ.env
  | [], _ => rfl
  | _ :: ks, _ => kills_env ks _
theorem kills_objs : ∀ (ks : List Nat) (σ : St), (kills ks σ).objs = killOb ks σ.objs
  | [], _ => rfl
  | _ :: ks, _ => kills_objs ks _
theorem kills_n : ∀ (ks : List Nat) (σ : St), (kills ks σ).n = σ.n
  | [], _ => rfl
  | _ :: ks, _ => kills_n ks _
theorem get_dels : ∀ (ks : List Nat) (ob : List (Nat × Ob)) (i : Nat), get (dels ks ob) i = if i ∈ ks then none else get ob i
  | [], _, _ => rfl
  | k :: ks, ob, i => by
    simp only [dels, get_dels ks, get_del, List.mem_cons]
    by_cases h : i ∈ ks
    · simp [h]
    · by_cases e : k = i
      · subst e; simp
      · have e' : ¬ i = k := fun x => e x.symm
        simp [h, e, e']
section
variable {w0 : Base} {w : World} {M0 M : Snap} {β : Plc} {σ : St} {tm : Array Value}
theorem Rel.kills : ∀ (ks : List Nat) {β : Plc} {σ : St}, Rel w0 M0 M β σ tm w → Rel w0 M0 M (fun j => if j ∈ ks then none else β j) (kills ks σ) tm w
  | [], β, σ, h => by simpa [Sy.kills] using h
  | k :: ks, β, σ, h => by
    have := Rel.kills ks (h.kill k)
    have e : (fun j => if j ∈ ks then none else (fun j => if j = k then none else β j) j) = fun j => if j ∈ k :: ks then none else β j := by
      funext j
      simp only [List.mem_cons]
      by_cases h1 : j ∈ ks <;> by_cases h2 : j = k <;> simp [h1, h2]
    rw [e] at this
    exact this
end

/-! ### lending -/
/-- numbers of what is lent, in the call -/
def LB : Nat := 1000000000000
def idxOf (i : Nat) : List Nat → Option Nat
  | [] => none
  | j :: r => if j = i then some 0 else (idxOf i r).map (· + 1)
theorem idxOf_some {i : Nat} : ∀ {R : List Nat} {k : Nat}, idxOf i R = some k → R[k]? = some i
  | [], _, h => by cases h
  | j :: r, k, h => by
    simp only [idxOf] at h
    split at h
    · rename_i e; cases h; simp [e]
    · cases e : idxOf i r with
      | none => simp [e] at h
      | some m => simp [e] at h; subst h; simpa using idxOf_some e
theorem idxOf_inj {i j k : Nat} {R : List Nat} (h : idxOf i R = some k) (h' : idxOf j R = some k) : i = j := by
  have := (idxOf_some h).symm.trans (idxOf_some h'); cases this; rfl
def toL (R : List Nat) (i : Nat) : Option Nat := (idxOf i R).map (LB + ·)
/-- a pointer to all of an own block -/
def refTo (o : Ob) (i : Nat) : SV :=
  match o with
  | .cells _ _ => .e (.c (.np i 0))
  | .row _ _ _ => .e (.c (.row i))
  | .map _ _ _ _ _ => .e (.c (.mp i))
  | .vec _ _ _ => .e (.c (.row i))
  | .fn _ _ => .e (.c (.cl i))
def refVal (o : Ob) (p : Nat ⊕ Value) : Option Value :=
  match o, p with
  | .cells _ _, .inl b => some (.pointer (some ⟨b, 0, none⟩))
  | .row _ _ _, .inr v => some v
  | .map _ _ _ _ _, .inl b => some (.map (some b))
  | .vec _ _ _, .inr v => some v
  | .fn _ _, .inr v => some v
  | _, _ => none
def lendE (ob : List (Nat × Ob)) : Nat → List Nat → List (Nat × SV)
  | _, [] => []
  | k, i :: r =>
    match get ob i with
    | some o => (GH + k, refTo o (LB + k)) :: lendE ob (k + 1) r
    | none => lendE ob (k + 1) r
def lendO (ob : List (Nat × Ob)) (f : Nat → Option Nat) : Nat → List Nat → List (Nat × Ob)
  | _, [] => []
  | k, i :: r =>
    match get ob i with
    | some o => (LB + k, o.ren f) :: lendO ob f (k + 1) r
    | none => lendO ob f (k + 1) r
def lend (σ : St) (R : List Nat) : St := ⟨0, lendE σ.objs 0 R, lendO σ.objs (toL R) 0 R⟩
theorem get_lendE {ob : List (Nat × Ob)} : ∀ {R : List Nat} {k s : Nat} {x : SV}, get (lendE ob k R) s = some x → ∃ m i o, s = GH + k + m ∧ R[m]? = some i ∧ get ob i = some o ∧ x = refTo o (LB + k + m) := by
  intro R
  induction R with
  | nil => intro k s x h; cases h
  | cons i r ih =>
    intro k s x h
    simp only [lendE] at h
    have rest : get (lendE ob (k + 1) r) s = some x → ∃ m i' o, s = GH + k + m ∧ (i :: r)[m]? = some i' ∧ get ob i' = some o ∧ x = refTo o (LB + k + m) := fun h => by
      obtain ⟨m, i', o, h1, h2, h3, h4⟩ := ih h
      exact ⟨m + 1, i', o, by omega, by simpa using h2, h3, by rw [h4]; congr 1; omega⟩
    split at h
    · rename_i o ho
      simp only [get] at h
      split at h
      · rename_i e; cases h; exact ⟨0, i, o, by omega, rfl, ho, rfl⟩
      · exact rest h
    · exact rest h
theorem get_lendO {ob : List (Nat × Ob)} {f : Nat → Option Nat} : ∀ {R : List Nat} {k s : Nat} {x : Ob}, get (lendO ob f k R) s = some x → ∃ m i o, s = LB + k + m ∧ R[m]? = some i ∧ get ob i = some o ∧ x = o.ren f := by
  intro R
  induction R with
  | nil => intro k s x h; cases h
  | cons i r ih =>
    intro k s x h
    simp only [lendO] at h
    have rest : get (lendO ob f (k + 1) r) s = some x → ∃ m i' o, s = LB + k + m ∧ (i :: r)[m]? = some i' ∧ get ob i' = some o ∧ x = o.ren f := fun h => by
      obtain ⟨m, i', o, h1, h2, h3, h4⟩ := ih h
      exact ⟨m + 1, i', o, by omega, by simpa using h2, h3, h4⟩
    split at h
    · rename_i o ho
      simp only [get] at h
      split at h
      · rename_i e; cases h; exact ⟨0, i, o, by omega, rfl, ho, rfl⟩
      · exact rest h
    · exact rest h

/-- the world that a call finds: what is lent, and what those are that were lent -/
def lentB (w : World) (β : Plc) (ob : List (Nat × Ob)) (R : List Nat) : Base :=
  ⟨w, fun b => ∃ i p, i ∈ R ∧ β i = some p ∧ blk p = some b, fun k => (R[k]?).bind fun i => (get ob i).bind fun o => (β i).bind (refVal o)⟩
/-- where the lent blocks lie -/
def lentP (β : Plc) (R : List Nat) : Plc := fun j => if LB ≤ j then (R[j - LB]?).bind β else none
theorem nodup_at {R : List Nat} (h : R.Nodup) {m n i : Nat} (h1 : R[m]? = some i) (h2 : R[n]? = some i) : m = n := by
  exact (List.getElem?_inj (List.getElem?_eq_some_iff.1 h1).1 h).1 (h1.trans h2.symm)
section
variable {w0 : Base} {w : World} {M0 M : Snap} {β : Plc} {σ : St} {tm : Array Value}
theorem toL_ok {R : List Nat} : ∀ j k p, toL R j = some k → β j = some p → lentP β R k = some p := fun j k p h hp => by
  unfold toL at h
  cases e : idxOf j R with
  | none => simp [e] at h
  | some m =>
    simp [e] at h; subst h
    unfold lentP
    rw [if_pos (by omega), show LB + m - LB = m by omega, idxOf_some e]
    exact hp
theorem Rel.lend (h : Rel w0 M0 M β σ tm w) {R : List Nat} (hR : R.Nodup) : Rel (lentB w β σ.objs R) M M (lentP β R) (Sy.lend σ R) #[] w := by
  have hp : ∀ {j p}, lentP β R j = some p → LB ≤ j ∧ ∃ i, R[j - LB]? = some i ∧ β i = some p := fun {j p} hj => by
    unfold lentP at hj
    split at hj
    · rename_i hle
      obtain ⟨i, h1, h2⟩ := Option.bind_eq_some_iff.1 hj
      exact ⟨hle, i, h1, h2⟩
    · cases hj
  refine ⟨⟨rfl, rfl, rfl, Nat.le_refl _, fun _ _ _ => rfl⟩, h.snap, fun _ _ h => h, fun _ _ h => .inl h, ?_, ?_, by simp [Sy.lend], by simp [Sy.lend], ?_, ?_⟩
  · intro j p b hj hb
    obtain ⟨_, i, h1, h2⟩ := hp hj
    obtain ⟨a1, _, a3⟩ := h.apart i p b h2 hb
    exact ⟨a1, .inr ⟨i, p, List.mem_of_getElem? h1, h2, hb⟩, a3⟩
  · intro j k p q b hj hk hb hb'
    obtain ⟨l1, i, h1, h2⟩ := hp hj
    obtain ⟨l2, i', h1', h2'⟩ := hp hk
    have := h.inj i i' p q b h2 h2' hb hb'
    subst this
    have := nodup_at hR h1 h1'
    omega
  · intro s x hs
    obtain ⟨m, i, o, rfl, h1, h2, rfl⟩ := get_lendE hs
    simp only [Nat.add_zero]
    obtain ⟨p, hb, ho⟩ := h.objs i o h2
    have hl : lentP β R (LB + m) = some p := by
      unfold lentP; rw [if_pos (by omega), show LB + m - LB = m by omega, h1]; exact hb
    have hg : ∀ v, refVal o p = some v → look #[] (lentB w β σ.objs R).gh (GH + m) = some v := fun v hv => by
      unfold look lentB
      rw [if_neg (by omega), show GH + m - GH = m by omega]
      simp [h1, h2, hb, hv]
    cases o with
    | cells T cs =>
      cases p with
      | inl b => exact ⟨_, hg _ rfl, b, hl, rfl⟩
      | inr v => exact ho.elim
    | row t T l =>
      cases p with
      | inl b => exact ho.elim
      | inr v =>
        obtain ⟨xs, hown, _⟩ := ho
        obtain ⟨A, c, e, _⟩ := row_form hown
        exact ⟨_, hg _ rfl, hl, A, _, c, e⟩
    | map ka va kt vt l =>
      cases p with
      | inl b => exact ⟨_, hg _ rfl, b, hl, rfl⟩
      | inr v => exact ho.elim
    | vec T r l =>
      cases p with
      | inl b => exact ho.elim
      | inr v =>
        obtain ⟨xs, hown, _⟩ := ho
        obtain ⟨A, c, e, _⟩ := row_form hown
        exact ⟨_, hg _ rfl, hl, A, _, c, e⟩
    | fn f l =>
      cases p with
      | inl b => exact ho.elim
      | inr v =>
        obtain ⟨cs, e, _⟩ := ho
        exact ⟨_, hg _ rfl, hl, _, _, _, e⟩
  · intro s x hs
    obtain ⟨m, i, o, rfl, h1, h2, rfl⟩ := get_lendO hs
    simp only [Nat.add_zero]
    obtain ⟨p, hb, ho⟩ := h.objs i o h2
    refine ⟨p, ?_, ho.ren (fun _ _ h => h) toL_ok⟩
    unfold lentP; rw [if_pos (by omega), show LB + m - LB = m by omega, h1]; exact hb
end

/-! ### taking back -/
def tgt (s j : Nat) : Nat := (j + 1) * 1000 + s
theorem tgt_inj {s i j : Nat} (h : tgt s i = tgt s j) : i = j := by unfold tgt at h; omega
def keys (ob : List (Nat × Ob)) : List Nat := ob.map (·.1)
theorem get_keys {ob : List (Nat × Ob)} {i : Nat} {o : Ob} (h : get ob i = some o) : i ∈ keys ob := by
  induction ob with
  | nil => cases h
  | cons p r ih =>
    simp only [get] at h
    split at h
    · rename_i e; exact List.mem_cons.2 (.inl e.symm)
    · exact List.mem_cons.2 (.inr (ih h))
/-- is it still what was lent? -/
def isRef (o : Ob) (i : Nat) : SV → Bool
  | .e (.c (.np j 0)) => match o with | .cells _ _ => decide (j = i) | _ => false
  | .e (.c (.row j)) => match o with | .row _ _ _ => decide (j = i) | .vec _ _ _ => decide (j = i) | _ => false
  | .e (.c (.cl j)) => match o with | .fn _ _ => decide (j = i) | _ => false
  | .e (.c (.mp j)) => match o with | .map _ _ _ _ _ => decide (j = i) | _ => false
  | _ => false
def lives (ob : List (Nat × Ob)) (ge : List (Nat × SV)) (R : List Nat) (m : Nat) : Bool :=
  match R[m]? with
  | some i =>
    match get ob i, get ge (GH + m) with
    | some o, some x => isRef o (LB + m) x
    | _, _ => false
  | none => false
def back (ob : List (Nat × Ob)) (R : List Nat) (s : Nat) (τ : St) (j : Nat) : Option Nat :=
  if j < LB then (if isIn (keys τ.objs) j then some (tgt s j) else none)
  else if lives ob τ.env R (j - LB) then R[j - LB]? else none
def freshT (s : Nat) (τ : St) : List Nat := ((keys τ.objs).filter (fun j => decide (j < LB))).map (tgt s)
def deadR (ob : List (Nat × Ob)) (R : List Nat) (τ : St) : List Nat := go 0 R
where go : Nat → List Nat → List Nat
  | _, [] => []
  | m, i :: r => if lives ob τ.env R m then go (m + 1) r else i :: go (m + 1) r
def puts (f : Nat → Option Nat) : List (Nat × Ob) → List (Nat × Ob) → List (Nat × Ob)
  | [], ob => ob
  | (j, o) :: r, ob =>
    match f j with
    | some i => put (puts f r ob) i (o.ren f)
    | none => puts f r ob
def disj (a b : List Nat) : Bool := a.all fun i => !isIn b i
/-- what the call's answer and what it leaves are to the caller -/
def noObs (τ : St) : Bool := match τ.objs with | [] => true | _ => false
def noIds (R : List Nat) : Bool := match R with | [] => true | _ => false
def takeBack (σ : St) (R : List Nat) (s : Nat) (x : SV) (τ : St) : Tr Res :=
  if noIds R && noObs τ then .ret (x.ren (fun _ => none), none) else
  if disj (freshT s τ) R then
    .ret (x.ren (back σ.objs R s τ), some (freshT s τ ++ deadR σ.objs R τ, puts (back σ.objs R s τ) τ.objs (dels R (killOb (freshT s τ ++ deadR σ.objs R τ) σ.objs))))
  else .fail
theorem get_puts {f : Nat → Option Nat} : ∀ {l ob : List (Nat × Ob)} {i : Nat} {o : Ob}, get (puts f l ob) i = some o →
    (∃ j o', f j = some i ∧ get l j = some o' ∧ o = o'.ren f) ∨ ((∀ j, j ∈ keys l → f j ≠ some i) ∧ get ob i = some o) := by
  intro l
  induction l with
  | nil => intro ob i o h; exact .inr ⟨fun j hj => by simp [keys] at hj, h⟩
  | cons p r ih =>
    obtain ⟨j, o1⟩ := p
    intro ob i o h
    simp only [puts] at h
    have rest : get (puts f r ob) i = some o → f j ≠ some i → (∃ k o', f k = some i ∧ get ((j, o1) :: r) k = some o' ∧ o = o'.ren f) ∨ ((∀ k, k ∈ keys ((j, o1) :: r) → f k ≠ some i) ∧ get ob i = some o) := fun h hne => by
      rcases ih h with ⟨k, o', h1, h2, h3⟩ | ⟨h1, h2⟩
      · refine .inl ⟨k, o', h1, ?_, h3⟩
        simp only [get]
        rw [if_neg (fun e => by subst e; exact hne h1)]; exact h2
      · refine .inr ⟨fun k hk => ?_, h2⟩
        rcases List.mem_cons.1 hk with rfl | hk
        · exact hne
        · exact h1 k hk
    split at h
    · rename_i i' e
      rw [get_put] at h
      split at h
      · rename_i e'; subst e'; cases h
        exact .inl ⟨j, o1, e, by simp [get], rfl⟩
      · rename_i hne
        exact rest h (fun e' => hne (by rw [e] at e'; cases e'; rfl))
    · rename_i e
      exact rest h (by rw [e]; simp)
theorem isIn_of_mem {l : List Nat} {k : Nat} (h : k ∈ l) : isIn l k = true := by
  induction l with
  | nil => cases h
  | cons j r ih =>
    simp only [isIn]
    split
    · rfl
    · rename_i hne
      rcases List.mem_cons.1 h with rfl | h
      · exact absurd rfl hne
      · exact ih h
theorem disj_ok {a b : List Nat} (h : disj a b = true) {i : Nat} (ha : i ∈ a) (hb : i ∈ b) : False := by
  have := List.all_eq_true.1 h i ha
  rw [isIn_of_mem hb] at this; cases this
theorem mem_deadR {ob : List (Nat × Ob)} {τ : St} {R : List Nat} : ∀ {r : List Nat} {m k i : Nat}, r[k]? = some i → lives ob τ.env R (m + k) = false → i ∈ deadR.go ob R τ m r := by
  intro r
  induction r with
  | nil => intro m k i h; simp at h
  | cons a r ih =>
    intro m k i h hl
    simp only [deadR.go]
    cases k with
    | zero =>
      simp at h; subst h
      rw [Nat.add_zero] at hl
      rw [if_neg (by simp [hl])]; exact List.mem_cons_self ..
    | succ k =>
      have := ih (m := m + 1) (k := k) (i := i) (by simpa using h) (by rwa [show m + 1 + k = m + (k + 1) by omega])
      split
      · exact this
      · exact List.mem_cons_of_mem _ this
theorem deadR_mem {ob : List (Nat × Ob)} {τ : St} {R : List Nat} : ∀ {r : List Nat} {m i : Nat}, i ∈ deadR.go ob R τ m r → ∃ k, r[k]? = some i ∧ lives ob τ.env R (m + k) = false := by
  intro r
  induction r with
  | nil => intro m i h; cases h
  | cons a r ih =>
    intro m i h
    simp only [deadR.go] at h
    have rest : i ∈ deadR.go ob R τ (m + 1) r → ∃ k, (a :: r)[k]? = some i ∧ lives ob τ.env R (m + k) = false := fun h => by
      obtain ⟨k, h1, h2⟩ := ih h
      exact ⟨k + 1, by simpa using h1, by rwa [show m + (k + 1) = m + 1 + k by omega]⟩
    split at h
    · exact rest h
    · rename_i hl
      rcases List.mem_cons.1 h with rfl | h
      · exact ⟨0, rfl, by simpa using hl⟩
      · exact rest h

section
variable {w0 : Base} {w : World} {M0 M : Snap} {β : Plc} {σ : St} {tm : Array Value}
theorem Rel.takeBack (h : Rel w0 M0 M β σ tm w) {R : List Nat} (hR : R.Nodup) {M2 : Snap} {β2 : Plc} {τ : St} {w2 : World} (h2 : Rel (lentB w β σ.objs R) M M2 β2 τ #[] w2) {s : Nat} (hd : disj (freshT s τ) R = true) :
    ∃ β3, Rel w0 M0 M2 β3 (σ.app (some (freshT s τ ++ deadR σ.objs R τ, puts (back σ.objs R s τ) τ.objs (dels R (killOb (freshT s τ ++ deadR σ.objs R τ) σ.objs))))) tm w2 ∧
      ∀ x v, SVR M2 β2 x v → SVR M2 β3 (x.ren (back σ.objs R s τ)) v := by
  generalize hK : freshT s τ ++ deadR σ.objs R τ = K
  generalize hfr : back σ.objs R s τ = fr
  have hk1 := Rel.kills K h
  generalize hβ1 : (fun j => if j ∈ K then none else β j) = β1 at hk1
  have hb1 : ∀ {i p}, β1 i = some p → i ∉ K ∧ β i = some p := fun {i p} hi => by
    rw [← hβ1] at hi
    by_cases e : i ∈ K
    · simp [e] at hi
    · simp [e] at hi; exact ⟨e, hi⟩
  -- a lent block that lives is where it was
  have live : ∀ {m i p}, lives σ.objs τ.env R m = true → R[m]? = some i → β i = some p → β2 (LB + m) = some p := fun {m i p} hl hm hp => by
    unfold lives at hl
    rw [hm] at hl
    simp only at hl
    split at hl
    · rename_i o x ho hx
      obtain ⟨v, hv, hr⟩ := h2.env _ _ hx
      obtain ⟨p', hp', hor⟩ := h.objs i o ho
      rw [hp] at hp'; cases hp'
      have hv' : refVal o p = some v := by
        unfold look lentB at hv
        rw [if_neg (by omega), show GH + m - GH = m by omega] at hv
        simpa [hm, ho, hp] using hv
      unfold isRef at hl
      split at hl
      · split at hl
        · simp only [decide_eq_true_eq] at hl; subst hl
          obtain ⟨b, hb, e⟩ := (show CVR M2 β2 (.np _ 0) v from hr)
          cases p with
          | inl b' => simp only [refVal, Option.some.injEq] at hv'; rw [e] at hv'; cases hv'; exact hb
          | inr v' => exact hor.elim
        · cases hl
      · split at hl
        · simp only [decide_eq_true_eq] at hl; subst hl
          have hb := (show CVR M2 β2 (.row _) v from hr).1
          cases p with
          | inl b' => exact hor.elim
          | inr v' => simp only [refVal, Option.some.injEq] at hv'; rw [← hv'] at hb; exact hb
        · simp only [decide_eq_true_eq] at hl; subst hl
          have hb := (show CVR M2 β2 (.row _) v from hr).1
          cases p with
          | inl b' => exact hor.elim
          | inr v' => simp only [refVal, Option.some.injEq] at hv'; rw [← hv'] at hb; exact hb
        · cases hl
      · split at hl
        · simp only [decide_eq_true_eq] at hl; subst hl
          have hb := (show CVR M2 β2 (.cl _) v from hr).1
          cases p with
          | inl b' => exact hor.elim
          | inr v' => simp only [refVal, Option.some.injEq] at hv'; rw [← hv'] at hb; exact hb
        · cases hl
      · split at hl
        · simp only [decide_eq_true_eq] at hl; subst hl
          obtain ⟨b, hb, e⟩ := (show CVR M2 β2 (.mp _) v from hr)
          cases p with
          | inl b' => simp only [refVal, Option.some.injEq] at hv'; rw [e] at hv'; cases hv'; exact hb
          | inr v' => exact hor.elim
        · cases hl
      · cases hl
    · cases hl
  -- the two kinds of numbers
  have frF : ∀ {j i}, fr j = some i → (j < LB ∧ j ∈ keys τ.objs ∧ i = tgt s j) ∨ (LB ≤ j ∧ R[j - LB]? = some i ∧ lives σ.objs τ.env R (j - LB) = true) := fun {j i} hj => by
    rw [← hfr] at hj
    unfold back at hj
    split at hj
    · rename_i hlt
      split at hj
      · rename_i hin; cases hj; exact .inl ⟨hlt, isIn_mem hin, rfl⟩
      · cases hj
    · rename_i hge
      split at hj
      · rename_i hl; exact .inr ⟨by omega, hj, hl⟩
      · cases hj
  have tgtK : ∀ {j}, j < LB → j ∈ keys τ.objs → tgt s j ∈ freshT s τ := fun {j} h1 h2' => by
    unfold freshT
    exact List.mem_map.2 ⟨j, List.mem_filter.2 ⟨h2', by simpa using h1⟩, rfl⟩
  have liveK : ∀ {m i}, R[m]? = some i → lives σ.objs τ.env R m = true → i ∉ K := fun {m i} hm hl hi => by
    rw [← hK] at hi
    rcases List.mem_append.1 hi with hi | hi
    · exact disj_ok hd hi (List.mem_of_getElem? hm)
    · obtain ⟨k, h1, h3⟩ := deadR_mem hi
      have := nodup_at hR hm h1
      subst this
      rw [Nat.zero_add] at h3
      rw [hl] at h3; cases h3
  have frInj : ∀ i j k, fr i = some k → fr j = some k → i = j := fun i j k hi hj => by
    rcases frF hi with ⟨a1, a2, a3⟩ | ⟨a1, a2, a3⟩ <;> rcases frF hj with ⟨b1, b2, b3⟩ | ⟨b1, b2, b3⟩
    · exact tgt_inj (a3.symm.trans b3)
    · exact (disj_ok hd (tgtK a1 a2) (by rw [← a3]; exact List.mem_of_getElem? b2)).elim
    · exact (disj_ok hd (tgtK b1 b2) (by rw [← b3]; exact List.mem_of_getElem? a2)).elim
    · have := nodup_at hR a2 b2; omega
  -- where all lies now
  let inv : Nat → Option Nat := fun i => (keys τ.objs).find? fun j => decide (j < LB ∧ tgt s j = i)
  have invS : ∀ {i j}, inv i = some j → j < LB ∧ tgt s j = i ∧ j ∈ keys τ.objs := fun {i j} hj => by
    have h3 := List.find?_some hj
    simp only [decide_eq_true_eq] at h3
    exact ⟨h3.1, h3.2, List.mem_of_find?_eq_some hj⟩
  have invT : ∀ {j}, j < LB → j ∈ keys τ.objs → inv (tgt s j) = some j := fun {j} h1 h3 => by
    cases e : inv (tgt s j) with
    | none => have := List.find?_eq_none.1 e j h3; simp [h1] at this
    | some k => rw [tgt_inj (invS e).2.1]
  have invK : ∀ {i j}, inv i = some j → i ∈ K := fun {i j} hj => by
    obtain ⟨h1, h3, h4⟩ := invS hj
    rw [← hK, ← h3]
    exact List.mem_append_left _ (tgtK h1 h4)
  let β3 : Plc := fun i => match inv i with | some j => β2 j | none => β1 i
  have c3 : ∀ {i p}, β3 i = some p → (∃ j, inv i = some j ∧ β2 j = some p) ∨ (inv i = none ∧ β1 i = some p) := fun {i p} hi => by
    simp only [β3] at hi
    split at hi
    · rename_i j e; exact .inl ⟨j, e, hi⟩
    · rename_i e; exact .inr ⟨e, hi⟩
  have b13 : ∀ i p, β1 i = some p → β3 i = some p := fun i p hi => by
    simp only [β3]
    split
    · rename_i j e; exact absurd (invK e) (hb1 hi).1
    · exact hi
  have b23 : ∀ j k p, fr j = some k → β2 j = some p → β3 k = some p := fun j k p hj hp => by
    rcases frF hj with ⟨a1, a2, rfl⟩ | ⟨a1, a2, a3⟩
    · simp only [β3]; rw [invT a1 a2]; exact hp
    · refine b13 k p ?_
      rw [← hβ1]
      simp only
      rw [if_neg (liveK a2 a3)]
      cases e : β k with
      | some q =>
        have := live a3 a2 e
        rw [show LB + (j - LB) = j by omega, hp] at this
        exact this.symm
      | none =>
        -- a living block has a place
        unfold lives at a3
        rw [a2] at a3
        simp only at a3
        split at a3
        · rename_i o x ho hx
          obtain ⟨q, hq, _⟩ := h.objs k o ho
          rw [e] at hq; cases hq
        · cases a3
  -- blocks of the callee's are new, or were lent
  have blk2 : ∀ {j p b}, β2 j = some p → blk p = some b → M2 b = none ∧ (w.heap.size ≤ b ∨ ∃ i q, i ∈ R ∧ β i = some q ∧ blk q = some b) ∧ b < w2.heap.size := fun {j p b} hj hb => h2.apart j p b hj hb
  have mOld : ∀ {i p b}, β i = some p → blk p = some b → M2 b = none ∨ ∃ j q, j ∈ R ∧ β j = some q ∧ blk q = some b := fun {i p b} hi hb => by
    cases e : M2 b with
    | none => exact .inl rfl
    | some o =>
      obtain ⟨a1, _, a3⟩ := h.apart i p b hi hb
      rcases h2.newM b o e with h3 | h3 | h3
      · rw [a1] at h3; cases h3
      · have : w.heap.size ≤ b := h3
        omega
      · exact .inr h3
  have wsz : w.heap.size ≤ w2.heap.size := h2.below.size
  refine ⟨β3, ?_, fun x v hx => by exact hx.ren (fun _ _ h => h) b23⟩
  refine ⟨⟨h2.below.os.trans h.below.os, h2.below.tape.trans h.below.tape, h2.below.output.trans h.below.output, Nat.le_trans h.below.size wsz, fun k hk hl => ?_⟩, h2.snap, fun b o hb => h2.mono b o (h.mono b o hb), fun b o hb => ?_, ?_, ?_, h.size, h.small, ?_, ?_⟩
  · refine (h2.below.block k (Nat.lt_of_lt_of_le hk h.below.size) ?_).trans (h.below.block k hk hl)
    rintro ⟨i, p, _, hp, hb⟩
    rcases (h.apart i p k hp hb).2.1 with h3 | h3
    · omega
    · exact hl h3
  · rcases h2.newM b o hb with h3 | h3 | ⟨i, p, _, hp, hb'⟩
    · exact h.newM b o h3
    · exact .inr (.inl (Nat.le_trans h.below.size h3))
    · exact .inr (h.apart i p b hp hb').2.1
  · intro i p b hi hb
    rcases c3 hi with ⟨j, hj, hp⟩ | ⟨hn, hp⟩
    · obtain ⟨a1, a2, a3⟩ := blk2 hp hb
      refine ⟨a1, ?_, a3⟩
      rcases a2 with a2 | ⟨r, q, _, hq, hb'⟩
      · exact .inl (Nat.le_trans h.below.size a2)
      · exact (h.apart r q b hq hb').2.1
    · obtain ⟨hnk, hp⟩ := hb1 hp
      obtain ⟨a1, a2, a3⟩ := h.apart i p b hp hb
      refine ⟨?_, a2, Nat.lt_of_lt_of_le a3 wsz⟩
      rcases mOld hp hb with h3 | ⟨r, q, hr, hq, hb'⟩
      · exact h3
      · have := h.inj i r p q b hp hq hb hb'
        subst this
        obtain ⟨m, hm⟩ := List.getElem?_of_mem hr
        cases hl : lives σ.objs τ.env R m with
        | true => exact (blk2 (live hl hm hp) hb).1
        | false =>
          exfalso
          apply hnk
          rw [← hK]
          exact List.mem_append_right _ (mem_deadR hm (by simpa using hl))
  · have cross : ∀ {i j k p q b}, inv i = some j → β2 j = some p → β1 k = some q → blk p = some b → blk q = some b → False := fun {i j k p q b} hi hp hq hb hb' => by
      obtain ⟨hnk, hq⟩ := hb1 hq
      have a3 := (h.apart k q b hq hb').2.2
      rcases (blk2 hp hb).2.1 with h3 | ⟨r, q', hr, hq', hb''⟩
      · omega
      · have := h.inj k r q q' b hq hq' hb' hb''
        subst this
        obtain ⟨m, hm⟩ := List.getElem?_of_mem hr
        cases hl : lives σ.objs τ.env R m with
        | true =>
          have := h2.inj j (LB + m) p q b hp (live hl hm hq) hb hb'
          have := (invS hi).1
          omega
        | false =>
          apply hnk
          rw [← hK]
          exact List.mem_append_right _ (mem_deadR hm (by simpa using hl))
    intro i k p q b hi hk hb hb'
    rcases c3 hi with ⟨j, hj, hp⟩ | ⟨hn, hp⟩ <;> rcases c3 hk with ⟨j', hj', hp'⟩ | ⟨hn', hp'⟩
    · have := h2.inj j j' p q b hp hp' hb hb'
      subst this
      rw [← (invS hj).2.1, ← (invS hj').2.1]
    · exact (cross hj hp hp' hb hb').elim
    · exact (cross hj' hp' hp hb' hb).elim
    · exact h.inj i k p q b (hb1 hp).2 (hb1 hp').2 hb hb'
  · intro t y hy
    have hy' : get (Sy.kills K σ).env t = some y := by rw [kills_env]; exact hy
    obtain ⟨v, hv, hr⟩ := hk1.env t y hy'
    exact ⟨v, hv, hr.weak (fun b o hb => h2.mono b o hb) b13⟩
  · intro i o ho
    rcases get_puts ho with ⟨j, o', hj, hj', rfl⟩ | ⟨hnf, ho'⟩
    · obtain ⟨p, hp, hor⟩ := h2.objs j o' hj'
      exact ⟨p, b23 j i p hj hp, hor.ren (fun _ _ h => h) b23⟩
    · rw [get_dels] at ho'
      split at ho'
      · cases ho'
      · rename_i hnr
        have ho'' : get (Sy.kills K σ).objs i = some o := by rw [kills_objs]; exact ho'
        obtain ⟨p, hp, hor⟩ := hk1.objs i o ho''
        refine ⟨p, b13 i p hp, (hor.world fun b hb => ?_).weak (fun b o hb => h2.mono b o hb) b13⟩
        have hp' := (hb1 hp).2
        refine h2.below.block b (h.apart i p b hp' hb).2.2 ?_
        rintro ⟨r, q, hr, hq, hb'⟩
        have := h.inj i r p q b hp' hq hb hb'
        subst this
        exact hnr hr
end
end Go.Proofs.YtjebfbkigkjboaaGreatDoor.Sy

/- The calculus, thirteenth part: calls. -/
namespace Go.Proofs.YtjebfbkigkjboaaGreatDoor.Sy
open Go.RowKit Kit

/-- no word of own blocks -/
def CV.closed : CV → Bool
  | .np _ _ | .row _ | .rp _ _ _ _ | .rv _ _ _ _ | .mp _ | .cl _ => false
  | _ => true
def EV.closed : EV → Bool
  | .c x => x.closed
  | .agg l => l.all CV.closed
def SV.closed : SV → Bool
  | .e x => x.closed
  | .tup l => l.all EV.closed
/-- no word of what is only read -/
def Ty.flat : Ty → Bool
  | .sl _ => false
  | .pair a b => a.flat && b.flat
  | _ => true
def CV.flat : CV → Bool
  | .d (.sl _ _) => false
  | .dp _ => false
  | _ => true
def EV.flat : EV → Bool
  | .c x => x.flat
  | .agg l => l.all CV.flat
def SV.flat : SV → Bool
  | .e x => x.flat
  | .tup l => l.all EV.flat
def Ob.flat : Ob → Bool
  | .cells _ cs => cs.all CV.flat
  | .row t _ _ => t.flat
  | .map _ _ kt vt _ => kt.flat && vt.flat
  | .vec _ _ cs => cs.all CV.flat
  | .fn _ cs => cs.all CV.flat
section
variable {M M' : Snap} {β β' : Plc}
theorem CVR.flat {x : CV} {v : Value} (hx : x.flat = true) (h : CVR M β x v) : CVR M' β x v := by
  cases x with
  | d y => cases y with
    | v u => cases (show DR M (.v u) v from h) with
      | v h => exact DR.v h
    | sl => simp [CV.flat] at hx
  | _ => first | exact h | (simp [CV.flat] at hx)
theorem CVs.flat {l : List CV} {vs : List Value} (h : CVs M β l vs) (hl : l.all CV.flat = true) : CVs M' β l vs := by
  induction h with
  | nil => exact .nil
  | cons h1 h2 _ ih =>
    simp only [List.all_cons, Bool.and_eq_true] at hl
    exact .cons (h1.flat hl.1) h2 (ih hl.2)
theorem EVR.flat {x : EV} {v : Value} (hx : x.flat = true) (h : EVR M β x v) : EVR M' β x v := by
  cases x with
  | c x => exact CVR.flat hx h
  | agg l => obtain ⟨vs, e, hc⟩ := h; exact ⟨vs, e, hc.flat hx⟩
theorem EVs.flat {l : List EV} {vs : List Value} (h : EVs M β l vs) (hl : l.all EV.flat = true) : EVs M' β l vs := by
  induction h with
  | nil => exact .nil
  | cons h1 _ ih =>
    simp only [List.all_cons, Bool.and_eq_true] at hl
    exact .cons (h1.flat hl.1) (ih hl.2)
theorem SVR.flat {x : SV} {v : Value} (hx : x.flat = true) (h : SVR M β x v) : SVR M' β x v := by
  cases x with
  | e x => exact EVR.flat hx h
  | tup l => obtain ⟨vs, e, hc⟩ := h; exact ⟨vs, e, hc.flat hx⟩
theorem split_flat : ∀ (t : Ty) (x : t.El), t.flat = true → ∀ d ∈ split t x, ∃ v, d = .v v
  | .int _, _, _ => by simp [split]
  | .bool, _, _ => by simp [split]
  | .str, _, _ => by simp [split]
  | .sl _, _, h => by simp [Ty.flat] at h
  | .pair a b, x, h => by
    simp only [Ty.flat, Bool.and_eq_true] at h
    intro d hd
    simp only [split, List.mem_append] at hd
    rcases hd with hd | hd
    · exact split_flat a x.1 h.1 d hd
    · exact split_flat b x.2 h.2 d hd
theorem Cells.flat {l : List D} {vs : List Value} (h : Cells M l vs) (hl : ∀ d ∈ l, ∃ v, d = .v v) : Cells M' l vs := by
  induction h with
  | nil => exact .nil
  | cons h1 _ ih =>
    refine .cons ?_ (ih fun d hd => hl d (List.mem_cons_of_mem _ hd))
    obtain ⟨v, rfl⟩ := hl _ (List.mem_cons_self ..)
    cases h1 with
    | v h => exact .v h
theorem Flat.flat {sz : Nat} {es : List (List D)} {xs : List Value} (h : Flat M sz es xs) (hl : ∀ e ∈ es, ∀ d ∈ e, ∃ v, d = .v v) : Flat M' sz es xs := by
  induction h with
  | nil => exact .nil
  | cons h1 h2 _ ih => exact .cons (h1.flat (hl _ (List.mem_cons_self ..))) h2 (ih fun e he => hl e (List.mem_cons_of_mem _ he))
theorem Pk.flat {ag : Bool} {t : Ty} {x : t.El} {v : Value} (ht : t.flat = true) (h : Pk M ag t x v) : Pk M' ag t x v := by
  unfold Pk at h ⊢
  split
  · rename_i e; rw [if_pos e] at h; obtain ⟨us, e, hc⟩ := h; exact ⟨us, e, hc.flat (split_flat t x ht)⟩
  · rename_i e; rw [if_neg e] at h; exact h.flat (split_flat t x ht)
theorem Ents.flat {ka va : Bool} {kt vt : Ty} {l : List (kt.El × vt.El)} {es : List MapEntry} (h1 : kt.flat = true) (h2 : vt.flat = true) (h : Ents M ka va kt vt l es) : Ents M' ka va kt vt l es := by
  induction h with
  | nil => exact .nil
  | cons a b _ ih => exact .cons (a.flat h1) (b.flat h2) ih
theorem OR.flat {w : World} {o : Ob} {p : Nat ⊕ Value} (ho : o.flat = true) (h : OR M β w o p) : OR M' β w o p := by
  cases o <;> cases p <;> try exact h.elim
  · obtain ⟨vs, e, hc⟩ := h; exact ⟨vs, e, hc.flat ho⟩
  · rename_i t T l v
    obtain ⟨xs, e, hf⟩ := h
    refine ⟨xs, e, hf.flat fun e he d hd => ?_⟩
    obtain ⟨x, _, rfl⟩ := List.mem_map.1 he
    exact split_flat t x ho d hd
  · obtain ⟨es, c, e, hc⟩ := h
    simp only [Ob.flat, Bool.and_eq_true] at ho
    exact ⟨es, c, e, hc.flat ho.1 ho.2⟩
  · obtain ⟨xs, e, hc, hroom⟩ := h; exact ⟨xs, e, hc.flat ho, hroom⟩
  · obtain ⟨cs, e, hc⟩ := h; exact ⟨cs, e, hc.flat ho⟩
theorem CVR.closed {x : CV} {v : Value} (hx : x.closed = true) (h : CVR M β x v) : CVR M β' x v := by
  cases x <;> first | exact h | (simp [CV.closed] at hx)
theorem CVs.closed {l : List CV} {vs : List Value} (h : CVs M β l vs) (hl : l.all CV.closed = true) : CVs M β' l vs := by
  induction h with
  | nil => exact .nil
  | cons h1 h2 _ ih =>
    simp only [List.all_cons, Bool.and_eq_true] at hl
    exact .cons (h1.closed hl.1) h2 (ih hl.2)
theorem EVR.closed {x : EV} {v : Value} (hx : x.closed = true) (h : EVR M β x v) : EVR M β' x v := by
  cases x with
  | c x => exact CVR.closed hx h
  | agg l => obtain ⟨vs, e, hc⟩ := h; exact ⟨vs, e, hc.closed hx⟩
theorem EVs.closed {l : List EV} {vs : List Value} (h : EVs M β l vs) (hl : l.all EV.closed = true) : EVs M β' l vs := by
  induction h with
  | nil => exact .nil
  | cons h1 _ ih =>
    simp only [List.all_cons, Bool.and_eq_true] at hl
    exact .cons (h1.closed hl.1) (ih hl.2)
theorem SVR.closed {x : SV} {v : Value} (hx : x.closed = true) (h : SVR M β x v) : SVR M β' x v := by
  cases x with
  | e x => exact EVR.closed hx h
  | tup l => obtain ⟨vs, e, hc⟩ := h; exact ⟨vs, e, hc.closed hx⟩
theorem SVRs.closed {l : List SV} {vs : List Value} (h : SVRs M β l vs) (hl : l.all SV.closed = true) : SVRs M β' l vs := by
  induction h with
  | nil => exact .nil
  | cons h1 _ ih =>
    simp only [List.all_cons, Bool.and_eq_true] at hl
    exact .cons (h1.closed hl.1) (ih hl.2)
end

section
variable {P : Program} {w0 : Base} {w : World} {M0 M : Snap} {β : Plc} {σ : St} {a : Act}

/-- all that lies in a world, laid still for the time of a call -/
def heapS (w : World) : Snap := fun b => w.heap[b]?
theorem heapS_cell (w : World) (a : Addr) : (heapS w).cell a = w.cell? a := rfl

def viewD (ob : List (Nat × Ob)) : CV → Option D
  | .d x => some x
  | .nil => some (.sl .bool [])
  | .kb b => some (.v (.bool b))
  | .row i =>
    match get ob i with
    | some (.row t _ l) => some (.sl t l)
    | _ => none
  | .rv i sz k n =>
    match get ob i with
    | some (.row t _ l) => if sz = t.sz ∧ k + n ≤ l.length then some (.sl t ((l.drop k).take n)) else none
    | _ => none
  | _ => none
def viewDs (ob : List (Nat × Ob)) : List CV → Option (List D)
  | [] => some []
  | c :: cs =>
    match viewD ob c, viewDs ob cs with
    | some x, some l => some (x :: l)
    | _, _ => none
/-- the cells from there on, as far as they are data -/
def viewP (ob : List (Nat × Ob)) : List CV → List D
  | [] => []
  | c :: cs => match viewD ob c with | some x => x :: viewP ob cs | none => []
def viewC (ob : List (Nat × Ob)) : CV → Option CV
  | .d x => some (.d x)
  | .nil => some .nil
  | .nilp => some .nilp
  | .nilm => some .nilm
  | .kb b => some (.kb b)
  | .any => some .any
  | .und => some .und
  | .dp cs => some (.dp cs)
  | .row i => (viewD ob (.row i)).map .d
  | .rv i sz k n => (viewD ob (.rv i sz k n)).map .d
  | .np i off =>
    match get ob i with
    | some (.cells _ cs) => some (.dp (viewP ob (cs.drop off)))
    | _ => none
  | _ => none
def viewCs (ob : List (Nat × Ob)) : List CV → Option (List CV)
  | [] => some []
  | c :: cs =>
    match viewC ob c, viewCs ob cs with
    | some x, some l => some (x :: l)
    | _, _ => none
def viewS (ob : List (Nat × Ob)) : SV → Option SV
  | .e (.c x) => (viewC ob x).map fun y => .e (.c y)
  | .e (.agg l) => (viewCs ob l).map fun y => .e (.agg y)
  | .tup _ => none
def viewSs (ob : List (Nat × Ob)) : List SV → Option (List SV)
  | [] => some []
  | c :: cs =>
    match viewS ob c, viewSs ob cs with
    | some x, some l => some (x :: l)
    | _, _ => none

/-- a snapshot in which all that the call made lies still as it is -/
structure Stills (S M : Snap) (β : Plc) (w : World) : Prop where
  mono : ∀ b o, M b = some o → S b = some o
  own : ∀ i p b, β i = some p → blk p = some b → S b = w.heap[b]?
theorem Rel.heapM {tm : Array Value} (h : Rel w0 M0 M β σ tm w) : Stills (heapS w) M β w := ⟨fun b o hb => h.snap b o hb, fun _ _ _ _ _ => rfl⟩
theorem Snap.cell_of {S : Snap} {w : World} {ad : Addr} (h : S ad.block = w.heap[ad.block]?) : S.cell ad = w.cell? ad := by
  unfold Snap.cell World.cell?; rw [h]
  cases w.heap[ad.block]? with
  | none => rfl
  | some o => cases o <;> rfl
section
variable {S : Snap} {tm : Array Value}
theorem row_at' (h : Rel w0 M0 M β σ tm w) {i : Nat} {v : Value} (hb : β i = some (.inr v)) {t : Ty} {T : TypeId} {l : List t.El} (ho : get σ.objs i = some (.row t T l)) :
    ∃ xs, w.ownsRow 0 T t.sz v l.length xs ∧ Flat M t.sz (rows t l) xs := by
  obtain ⟨p, hp, hr⟩ := h.objs i _ ho
  rw [hb] at hp; cases hp
  exact hr
variable (hS : Stills S M β w)
include hS
theorem viewD_ok (h : Rel w0 M0 M β σ tm w) {x : CV} {v : Value} (hx : CVR M β x v) {y : D} (hy : viewD σ.objs x = some y) : DR S y v := by
  unfold viewD at hy
  split at hy
  · cases hy; exact DR.mono hS.mono hx
  · cases hy
    rw [show v = _ from hx]
    exact DR.nil _
  · cases hy
    rw [show v = _ from hx]
    exact .v rfl
  · rename_i i
    split at hy
    · rename_i t T l ho
      cases hy
      have hb := (show CVR M β (.row i) v from hx).1
      obtain ⟨xs, hown, hf⟩ := row_at' h hb ho
      rcases hown.2 with ⟨hv, h0⟩ | ⟨g, cap, cur, hv, _, _, hnc, hcm, _⟩
      · have : l = [] := List.eq_nil_of_length_eq_zero h0
        subst this
        rw [hv]
        exact DR.nil _
      · subst hv
        refine Flat.to_dr (hf.mono hS.mono) hnc hcm fun _ => ⟨_, rfl, fun j u hu => ?_⟩
        rw [Snap.cell_of (w := w) (by rw [lit_add]; exact hS.own _ _ g hb rfl)]
        exact hown.cells (g := g) rfl j u hu
    · cases hy
  · rename_i i sz k n
    split at hy
    · rename_i t T l ho
      split at hy
      · rename_i hc
        obtain ⟨rfl, hle⟩ := hc
        cases hy
        obtain ⟨g, m, cap, c, hb, hv, hnc, hcmax, _⟩ := (show CVR M β (.rv i t.sz k n) v from hx)
        obtain ⟨xs, hown, hf⟩ := row_at' h hb ho
        rcases hown.2 with ⟨h1, _⟩ | ⟨g', cap', cur, h1, _, hgc, hnc', hcm, hcs, htk⟩
        · cases h1
        · cases h1
          have hl : ((l.drop k).take n).length = n := by simp; omega
          subst hv
          have hf' : Flat M t.sz (rows t ((l.drop k).take n)) ((xs.drop (k * t.sz)).take (n * t.sz)) := by
            rw [rows_take, rows_drop]; exact (hf.dropS k).takeS n
          have := Flat.to_dr (A := some ⟨g, k * t.sz, none⟩) (c := c) (hf'.mono hS.mono) (by rw [hl]; exact hnc) hcmax fun _ => ⟨_, rfl, fun j u hu => ?_⟩
          · rw [hl] at this; exact this
          · rw [lit_add, Snap.cell_of (w := w) (hS.own _ _ g hb rfl)]
            have := hown.cells (g := g) rfl (k * t.sz + j) u (by
              rw [List.getElem?_take] at hu
              split at hu
              · rw [List.getElem?_drop] at hu; exact hu
              · cases hu)
            rwa [lit_add, Nat.zero_add] at this
      · cases hy
    · cases hy
  · cases hy
theorem viewDs_ok (h : Rel w0 M0 M β σ tm w) {l : List CV} {vs : List Value} (hx : CVs M β l vs) : ∀ {y : List D}, viewDs σ.objs l = some y → Cells S y vs := by
  induction hx with
  | nil => intro y hy; cases hy; exact .nil
  | cons h1 _ _ ih =>
    intro y hy
    simp only [viewDs] at hy
    split at hy
    · rename_i x r hx hr
      cases hy
      exact .cons (viewD_ok hS h h1 hx) (ih hr)
    · cases hy
theorem viewP_ok (h : Rel w0 M0 M β σ tm w) {l : List CV} {vs : List Value} (hx : CVs M β l vs) : Cells S (viewP σ.objs l) (vs.take (viewP σ.objs l).length) := by
  induction hx with
  | nil => exact .nil
  | cons h1 _ _ ih =>
    simp only [viewP]
    split
    · rename_i x hx
      simp only [List.length_cons, List.take_succ_cons]
      exact .cons (viewD_ok hS h h1 hx) ih
    · exact .nil
theorem viewC_ok (h : Rel w0 M0 M β σ tm w) {x : CV} {v : Value} (hx : CVR M β x v) {y : CV} (hy : viewC σ.objs x = some y) : CVR S noPlc y v := by
  unfold viewC at hy
  split at hy
  · cases hy; exact DR.mono hS.mono hx
  · cases hy; exact hx
  · cases hy; exact hx
  · cases hy; exact hx
  · cases hy; exact hx
  · cases hy; trivial
  · cases hy; exact hx
  · cases hy
    obtain ⟨ad, us, e, hc, hm⟩ := hx
    exact ⟨ad, us, e, hc.mono hS.mono, fun j u hu => Snap.cell_mono hS.mono (hm j u hu)⟩
  · rename_i i
    obtain ⟨d, e, rfl⟩ := Option.map_eq_some_iff.1 hy
    exact viewD_ok hS h hx e
  · rename_i i sz k n
    obtain ⟨d, e, rfl⟩ := Option.map_eq_some_iff.1 hy
    exact viewD_ok hS h hx e
  · rename_i i off
    obtain ⟨b, hb, e⟩ := (show CVR M β (.np i off) v from hx)
    split at hy
    · rename_i T cs ho
      cases hy
      obtain ⟨p, hp, hr⟩ := h.objs i _ ho
      rw [hb] at hp; cases hp
      obtain ⟨vs, hw, hc⟩ := hr
      refine ⟨_, _, e, viewP_ok hS h (hc.drop off), fun j u hu => ?_⟩
      rw [lit_add, Snap.cell_of (w := w) (hS.own _ _ b hb rfl), cell_of_row w b _ vs T (0, 0) hw]
      rw [List.getElem?_take] at hu
      split at hu
      · rw [List.getElem?_drop] at hu
        simpa using hu
      · cases hu
    · cases hy
  · cases hy
theorem viewCs_ok (h : Rel w0 M0 M β σ tm w) {l : List CV} {vs : List Value} (hx : CVs M β l vs) : ∀ {y : List CV}, viewCs σ.objs l = some y → CVs S noPlc y vs := by
  induction hx with
  | nil => intro y hy; cases hy; exact .nil
  | cons h1 h2 _ ih =>
    intro y hy
    simp only [viewCs] at hy
    split at hy
    · rename_i x r hx hr
      cases hy
      exact .cons (viewC_ok hS h h1 hx) h2 (ih hr)
    · cases hy
theorem viewS_ok (h : Rel w0 M0 M β σ tm w) {x : SV} {v : Value} (hx : SVR M β x v) {y : SV} (hy : viewS σ.objs x = some y) : SVR S noPlc y v := by
  unfold viewS at hy
  split at hy
  · obtain ⟨d, e, rfl⟩ := Option.map_eq_some_iff.1 hy
    exact viewC_ok hS h hx e
  · obtain ⟨d, e, rfl⟩ := Option.map_eq_some_iff.1 hy
    obtain ⟨vs, ev, hc⟩ := hx
    exact ⟨vs, ev, viewCs_ok hS h hc e⟩
  · cases hy
theorem viewSs_ok (h : Rel w0 M0 M β σ tm w) {l : List SV} {vs : List Value} (hx : SVRs M β l vs) : ∀ {y : List SV}, viewSs σ.objs l = some y → SVRs S noPlc y vs := by
  induction hx with
  | nil => intro y hy; cases hy; exact .nil
  | cons h1 _ ih =>
    intro y hy
    simp only [viewSs] at hy
    split at hy
    · rename_i x r hx hr
      cases hy
      exact .cons (viewS_ok hS h h1 hx) (ih hr)
    · cases hy
end
theorem SVRs.of_ev (h : Rel w0 M0 M β σ a.tmps w) : ∀ l : List Operand, SVRs M β (l.map (ev σ)) (l.map a.eval)
  | [] => .nil
  | x :: l => .cons (ev_ok h x) (SVRs.of_ev h l)

/-- own blocks that a value speaks of -/
def CV.ids : CV → List Nat
  | .np i _ | .row i | .rp i _ _ _ | .rv i _ _ _ | .mp i | .cl i => [i]
  | _ => []
def EV.ids : EV → List Nat
  | .c x => x.ids
  | .agg l => l.flatMap CV.ids
def SV.ids : SV → List Nat
  | .e x => x.ids
  | .tup l => l.flatMap EV.ids
def Ob.ids : Ob → List Nat
  | .cells _ cs => cs.flatMap CV.ids
  | .vec _ _ cs => cs.flatMap CV.ids
  | .fn _ cs => cs.flatMap CV.ids
  | _ => []
/-- what is reached from there -/
def reach (ob : List (Nat × Ob)) : Nat → List Nat → List Nat → List Nat
  | 0, _, acc => acc
  | _ + 1, [], acc => acc
  | n + 1, i :: l, acc =>
    if isIn acc i then reach ob n l acc else
    match get ob i with
    | some o => reach ob n (o.ids ++ l) (acc ++ [i])
    | none => reach ob n l acc
theorem not_isIn {l : List Nat} {i : Nat} (h : ¬ isIn l i = true) : i ∉ l := fun hm => h (isIn_of_mem hm)
theorem reach_nodup {ob : List (Nat × Ob)} : ∀ {n : Nat} {l acc : List Nat}, acc.Nodup → (reach ob n l acc).Nodup := by
  intro n
  induction n with
  | zero => intro l acc h; exact h
  | succ n ih =>
    intro l acc h
    cases l with
    | nil => exact h
    | cons i l =>
      simp only [reach]
      split
      · exact ih h
      · rename_i hn
        split
        · refine ih ?_
          rw [List.nodup_append]
          exact ⟨h, by simp, fun x hx y hy => by
            simp only [List.mem_singleton] at hy; subst hy
            intro e; subst e; exact not_isIn hn hx⟩
        · exact ih h

def flatObs : List (Nat × Ob) → Bool
  | [] => true
  | (_, o) :: r => o.flat && flatObs r
theorem flatObs_get {ob : List (Nat × Ob)} (h : flatObs ob = true) {i : Nat} {o : Ob} (hg : get ob i = some o) : o.flat = true := by
  induction ob with
  | nil => cases hg
  | cons p r ih =>
    obtain ⟨j, o'⟩ := p
    simp only [flatObs, Bool.and_eq_true] at h
    simp only [get] at hg
    split at hg
    · cases hg; exact h.1
    · exact ih h.2 hg
def noEnv (τ : St) : Bool := match τ.env with | [] => true | _ => false
def St.nil : St := ⟨0, [], []⟩
/-- Γ: contracts of functions that write nothing that they are handed; Λ: of those that may -/
def doCallX (Γ Λ : List (Nat × Ctr)) (σ : St) (s f : Nat) (xs : List SV) : Tr Res :=
  match get Γ f with
  | some F =>
    if xs.all SV.closed then (F xs St.nil).bind fun r => takeBack σ [] s r.1 r.2
    else match viewSs σ.objs xs with
      | some ys => (F ys St.nil).bind fun r => if r.1.flat && flatObs r.2.objs && noEnv r.2 then takeBack σ [] s r.1 r.2 else .fail
      | none => .fail
  | none =>
    match get Λ f with
    | some F =>
      (F (xs.map (SV.ren (toL (reach σ.objs 100 (xs.flatMap SV.ids) [])))) (lend σ (reach σ.objs 100 (xs.flatMap SV.ids) []))).bind fun r =>
        takeBack σ (reach σ.objs 100 (xs.flatMap SV.ids) []) s r.1 r.2
    | none => .fail
abbrev doCall (Γ Λ : List (Nat × Ctr)) (σ : St) (s f : Nat) (args : List Operand) : Tr Res := doCallX Γ Λ σ s f (args.map (ev σ))
theorem takeBack_ok (h : Rel w0 M0 M β σ a.tmps w) {R : List Nat} (hR : R.Nodup) {M2 : Snap} {β2 : Plc} {τ : St} {w2 : World} (h2 : Rel (lentB w β σ.objs R) M M2 β2 τ #[] w2) {s : Nat} {x : SV} {v : Value} (hv : SVR M2 β2 x v) {K : Res → Prop} (hk : (takeBack σ R s x τ).sat K) :
    ∃ y ch M' β', K (y, ch) ∧ Rel w0 M0 M' β' (σ.app ch) a.tmps w2 ∧ SVR M' β' y v := by
  unfold takeBack at hk
  split at hk
  · rename_i hc
    simp only [Bool.and_eq_true] at hc
    obtain ⟨h1, h3⟩ := hc
    have hRe : R = [] := by unfold noIds at h1; split at h1 <;> first | rfl | (cases h1; done)
    have hoe : τ.objs = [] := by unfold noObs at h3; split at h3 <;> first | assumption | (cases h3; done)
    subst hRe
    have hf : freshT s τ = [] := by simp [freshT, hoe, keys]
    obtain ⟨β3, hr, hs⟩ := h.takeBack hR h2 (s := s) (by rw [hf]; rfl)
    rw [hf, hoe] at hr
    have hb : back σ.objs [] s τ = fun _ => none := by
      funext j
      simp [back, hoe, keys, isIn, lives]
    refine ⟨_, _, M2, β3, hk, hr, ?_⟩
    rw [← hb]; exact hs x v hv
  · split at hk
    · rename_i hd
      obtain ⟨β3, hr, hs⟩ := h.takeBack hR h2 hd
      exact ⟨_, _, M2, β3, hk, hr, hs x v hv⟩
    · exact hk.elim
theorem doCallX_ok {Γ Λ : List (Nat × Ctr)} (hΓ : GOk P Γ) (hΛ : GOk P Λ) (h : Rel w0 M0 M β σ a.tmps w) {s f : Nat} {xs : List SV} {vs : List Value} (hxs : SVRs M β xs vs) {K : Res → Prop} (hk : (doCallX Γ Λ σ s f xs).sat K) :
    Entered P f ∧ Calls P f vs.toArray w fun e w' => ∃ x ch v M' β', K (x, ch) ∧ e = .returned v ∧ Rel w0 M0 M' β' (σ.app ch) a.tmps w' ∧ SVR M' β' x v := by
  unfold doCallX at hk
  split at hk
  · rename_i F hF
    obtain ⟨hE, hF⟩ := hΓ f F hF
    refine ⟨hE, ?_⟩
    split at hk
    · rename_i hcl
      have h0 := h.lend (R := []) List.nodup_nil
      refine (hF (lentB w β σ.objs []) M _ _ _ _ h0 (hxs.closed hcl) _ (Tr.sat_bind hk)).mono fun e w' ⟨x, τ, v, M', β', hx, he, hr, h2⟩ => ?_
      obtain ⟨y, ch, M'', β'', hK, hrel, hy⟩ := takeBack_ok h List.nodup_nil h2 hr hx
      exact ⟨y, ch, v, M'', β'', hK, he, hrel, hy⟩
    · split at hk
      · rename_i ys hys
        have h0 : Rel (lentB w β σ.objs []) (heapS w) (heapS w) noPlc St.nil #[] w :=
          ⟨⟨rfl, rfl, rfl, Nat.le_refl _, fun _ _ _ => rfl⟩, fun _ _ h => h, fun _ _ h => h, fun _ _ h => .inl h, (fun i p b hi => by cases hi), (fun i j p q b hi => by cases hi), by simp [St.nil], by simp [St.nil], (fun s x hx => by cases hx), (fun i o ho => by cases ho)⟩
        refine (hF (lentB w β σ.objs []) (heapS w) _ _ _ _ h0 (viewSs_ok h.heapM h hxs hys) _ (Tr.sat_bind hk)).mono fun e w' ⟨x, τ, v, M', β', hx, he, hr, h2⟩ => ?_
        split at hx
        · rename_i hp
          simp only [Bool.and_eq_true] at hp
          obtain ⟨⟨hp1, hp2⟩, hp3⟩ := hp
          have h2' : Rel (lentB w β σ.objs []) M M β' τ #[] w' := by
            refine ⟨h2.below, fun b o hb => h2.snap b o (h2.mono b o (h.snap b o hb)), fun _ _ h => h, fun _ _ h => .inl h, fun i p b hi hb => ?_, h2.inj, h2.size, h2.small, fun s x hs => ?_, fun i o ho => ?_⟩
            · obtain ⟨a1, a2, a3⟩ := h2.apart i p b hi hb
              refine ⟨?_, a2, a3⟩
              cases e : M b with
              | none => rfl
              | some o => have := h2.mono b o (h.snap b o e); rw [a1] at this; cases this
            · unfold noEnv at hp3
              split at hp3
              · rename_i e; rw [e] at hs; cases hs
              · cases hp3
            · obtain ⟨p, hp, hor⟩ := h2.objs i o ho
              exact ⟨p, hp, hor.flat (flatObs_get hp2 ho)⟩
          obtain ⟨y, ch, M'', β'', hK, hrel, hy⟩ := takeBack_ok h List.nodup_nil h2' (hr.flat hp1) hx
          exact ⟨y, ch, v, M'', β'', hK, he, hrel, hy⟩
        · exact hx.elim
      · exact hk.elim
  · split at hk
    · rename_i F hF
      obtain ⟨hE, hF⟩ := hΛ f F hF
      refine ⟨hE, ?_⟩
      generalize hR : reach σ.objs 100 (xs.flatMap SV.ids) [] = R at hk
      have hnd : R.Nodup := by rw [← hR]; exact reach_nodup List.nodup_nil
      have h0 := h.lend hnd
      refine (hF (lentB w β σ.objs R) M _ _ _ _ h0 (hxs.ren (fun _ _ h => h) toL_ok) _ (Tr.sat_bind hk)).mono fun e w' ⟨x, τ, v, M', β', hx, he, hr, h2⟩ => ?_
      obtain ⟨y, ch, M'', β'', hK, hrel, hy⟩ := takeBack_ok h hnd h2 hr hx
      exact ⟨y, ch, v, M'', β'', hK, he, hrel, hy⟩
    · exact hk.elim
theorem doCall_ok {Γ Λ : List (Nat × Ctr)} (hΓ : GOk P Γ) (hΛ : GOk P Λ) (h : Rel w0 M0 M β σ a.tmps w) {s f : Nat} {args : List Operand} {K : Res → Prop} (hk : (doCall Γ Λ σ s f args).sat K) :
    Entered P f ∧ Calls P f (args.map a.eval).toArray w fun e w' => ∃ x ch v M' β', K (x, ch) ∧ e = .returned v ∧ Rel w0 M0 M' β' (σ.app ch) a.tmps w' ∧ SVR M' β' x v :=
  doCallX_ok hΓ hΛ h (SVRs.of_ev h args) hk
/-- a call of a function value -/
def doCallF (Γ Λ : List (Nat × Ctr)) (σ : St) (s g : Nat) (args : List Operand) : Tr Res :=
  match ev σ (.tmp g) with
  | .e (.c (.cl i)) =>
    match get σ.objs i with
    | some (.fn f cs) => doCallX Γ Λ σ s f (args.map (ev σ) ++ cs.map fun c => .e (.c c))
    | _ => .fail
  | _ => .fail
theorem SVRs.append {xs ys : List SV} {us vs : List Value} (h : SVRs M β xs us) (h' : SVRs M β ys vs) : SVRs M β (xs ++ ys) (us ++ vs) := by
  induction h with
  | nil => exact h'
  | cons h1 _ ih => exact .cons h1 ih
theorem SVRs.ofCVs {l : List CV} {vs : List Value} (h : CVs M β l vs) : SVRs M β (l.map fun c => .e (.c c)) vs := by
  induction h with
  | nil => exact .nil
  | cons h1 _ _ ih => exact .cons h1 ih
theorem doCallF_ok {Γ Λ : List (Nat × Ctr)} (hΓ : GOk P Γ) (hΛ : GOk P Λ) (h : Rel w0 M0 M β σ a.tmps w) {s g : Nat} {args : List Operand} {K : Res → Prop} (hk : (doCallF Γ Λ σ s g args).sat K) :
    ∃ f cs, a.eval (.tmp g) = .func (.func f) #[] cs ∧ Entered P f ∧ Calls P f (args.map a.eval ++ cs.toList).toArray w fun e w' => ∃ x ch v M' β', K (x, ch) ∧ e = .returned v ∧ Rel w0 M0 M' β' (σ.app ch) a.tmps w' ∧ SVR M' β' x v := by
  have hx := ev_ok h (.tmp g)
  unfold doCallF at hk
  split at hk
  · rename_i i he
    rw [he] at hx
    split at hk
    · rename_i f cs ho
      obtain ⟨p, hp, hr⟩ := h.objs i _ ho
      rw [(show CVR M β (.cl i) _ from hx).1] at hp; cases hp
      obtain ⟨us, e, hc⟩ := hr
      exact ⟨f, us, e, doCallX_ok hΓ hΛ h ((SVRs.of_ev h args).append (.ofCVs hc)) hk⟩
    · exact hk.elim
  · exact hk.elim
end
end Go.Proofs.YtjebfbkigkjboaaGreatDoor.Sy

/- The calculus, fourteenth part: maps. -/
namespace Go.Proofs.YtjebfbkigkjboaaGreatDoor.Sy
open Go.RowKit Kit

def beqT : (t : Ty) → t.El → t.El → Bool
  | .int _, a, b => (show Int from a) == b
  | .bool, a, b => (show Bool from a) == b
  | .str, a, b => decide ((show ByteArray from a) = b)
  | .sl _, _, _ => false
  | .pair a b, x, y => beqT a x.1 y.1 && beqT b x.2 y.2
/-- what a map has for a key -/
def lookV (kt : Ty) {β : Type} (x : kt.El) : List (kt.El × β) → Option β
  | [] => none
  | p :: r => bif beqT kt x p.1 then some p.2 else lookV kt x r
def setV (kt : Ty) {β : Type} (x : kt.El) (y : β) : List (kt.El × β) → List (kt.El × β)
  | [] => [(x, y)]
  | p :: r => bif beqT kt x p.1 then (x, y) :: r else p :: setV kt x y r
def scalTy : TypeDesc → Ty → Bool
  | .int k, .int k' => decide (k = k')
  | .bool, .bool => true
  | .string, .str => true
  | _, _ => false
def scalF (tbl : Tbl) (f : Field) (off : Nat) (t : Ty) : Bool :=
  match get tbl f.type with
  | some l => scalTy l.desc t && decide (f.offset = off) && !decide (f.name = "_")
  | none => false
def fieldsTy (tbl : Tbl) : List Field → Nat → Ty → Bool
  | [], _, _ => false
  | f :: [], off, t => scalF tbl f off t
  | f :: fs, off, .pair a b => scalF tbl f off a && fieldsTy tbl fs (off + 1) b
  | _ :: _, _, _ => false
def keyOk (tbl : Tbl) (fl : List Nat) (k : Nat) (ka : Bool) (kt : Ty) : Bool :=
  match get tbl k with
  | some l =>
    match l.desc with
    | .struct fs => ka && isIn fl k && fieldsTy tbl fs.toList 0 kt
    | d => !ka && scalTy d kt
  | none => false

section
variable {P : Program} {tbl : Tbl} {w0 : Base} {w : World} {M0 M : Snap} {β : Plc} {σ : St} {a : Act} {K : Res → Prop}
def valT : (t : Ty) → t.El → Value
  | .int k, n => .int k n
  | .bool, b => .bool b
  | .str, s => .string s
  | _, _ => undef
theorem scal_cells {d : TypeDesc} {t : Ty} (h : scalTy d t = true) {x : t.El} {us : List Value} (hc : Cells M (split t x) us) : us = [valT t x] := by
  unfold scalTy at h
  split at h
  all_goals (first | (cases h; done) | skip)
  all_goals
    cases hc with
    | cons h1 h2 => cases h2; cases h1; rfl
theorem scal_noagg {d : TypeDesc} {t : Ty} (h : scalTy d t = true) : isAggD d = false := by
  cases d <;> first | rfl | (cases t <;> cases h)
theorem scal_part (ht : TblOk P tbl) {f : Field} {off : Nat} {t : Ty} (h : scalF tbl f off t = true) {us : Array Value} {v : Value} (hv : us[off]? = some v) : f.name ≠ "_" ∧ (part f.type us f.offset).run P w = .ok v w ∧ ∃ l, get tbl f.type = some l ∧ scalTy l.desc t = true := by
  unfold scalF at h
  split at h
  · rename_i l hl
    simp only [Bool.and_eq_true, decide_eq_true_eq, Bool.not_eq_true', decide_eq_false_iff_not] at h
    obtain ⟨⟨h1, h2⟩, h3⟩ := h
    refine ⟨h3, ?_, l, hl, h1⟩
    rw [h2]
    exact part_ok ht hl (scal_noagg h1) hv
  · cases h
theorem scal_eq (ht : TblOk P tbl) {T : Nat} {l : Lay} (hl : get tbl T = some l) {t : Ty} (h : scalTy l.desc t = true) (x y : t.El) (d : Nat) : (Op.equalIn (d + 1) T (valT t x) (valT t y)).run P w = .ok (beqT t x y) w := by
  have hu := (ht T l hl).2
  generalize l.desc = e at hu h
  unfold scalTy at h
  split at h
  · simp only [decide_eq_true_eq] at h; subst h
    exact run_equalIn_int w d T _ _ _ _ hu
  · exact run_equalIn_bool' w d T _ _ hu
  · show (Op.equalIn (d + 1) T (.string x) (.string y)).run P w = _
    rw [run_equalIn_string w d T _ _ hu, toList_beq]; rfl
  · cases h
theorem scal_check (ht : TblOk P tbl) {T : Nat} {l : Lay} (hl : get tbl T = some l) {t : Ty} (h : scalTy l.desc t = true) (x : t.El) (em : Bool) (n : Nat) : (Instr.checkKey em (n + 1) T (valT t x)).run P w = .ok () w := by
  have hu := (ht T l hl).2
  generalize l.desc = e at hu h
  unfold scalTy at h
  split at h
  · simp [Instr.checkKey, run_underlying hu, valT]
  · simp [Instr.checkKey, run_underlying hu, valT]
  · simp [Instr.checkKey, run_underlying hu, valT]
  · cases h
theorem scal_one {d : TypeDesc} {t : Ty} (h : scalTy d t = true) : t.sz = 1 := by
  unfold scalTy at h
  split at h <;> first | rfl | (cases h; done)
theorem cells_scal {d : TypeDesc} {t : Ty} (h : scalTy d t = true) (x : t.El) : Cells M (split t x) [valT t x] := by
  unfold scalTy at h
  split at h
  · exact .cons (.v rfl) .nil
  · exact .cons (.v rfl) .nil
  · exact .cons (.v rfl) .nil
  · cases h
/-- the cells of a struct of plain fields -/
theorem fields_vals {fs : List Field} : ∀ {off : Nat} {t : Ty}, fieldsTy tbl fs off t = true → ∀ {x : t.El} {us us' : List Value}, Cells M (split t x) us → Cells M (split t x) us' → us = us' := by
  induction fs with
  | nil => intro off t h; cases h
  | cons f fs ih =>
    intro off t h x us us' h1 h2
    have one : ∀ {t : Ty} {x : t.El} {us us' : List Value}, scalF tbl f off t = true → Cells M (split t x) us → Cells M (split t x) us' → us = us' := fun {t x us us'} h h1 h2 => by
      unfold scalF at h
      split at h
      · simp only [Bool.and_eq_true] at h
        rw [scal_cells h.1.1 h1, scal_cells h.1.1 h2]
      · cases h
    cases fs with
    | nil => exact one h h1 h2
    | cons g fs =>
      cases t with
      | pair a b =>
        simp only [fieldsTy, Bool.and_eq_true] at h
        have e1 : ∀ {us : List Value}, Cells M (split (.pair a b) x) us → Cells M (split a x.1) (us.take a.sz) ∧ Cells M (split b x.2) (us.drop a.sz) := fun {us} hc => by
          have hc' : Cells M (split a x.1 ++ split b x.2) us := hc
          have t1 := hc'.take a.sz
          have t2 := hc'.drop a.sz
          rw [← split_len a x.1, List.take_left, split_len] at t1
          rw [← split_len a x.1, List.drop_left, split_len] at t2
          exact ⟨t1, t2⟩
        obtain ⟨p1, p2⟩ := e1 h1
        obtain ⟨q1, q2⟩ := e1 h2
        rw [← List.take_append_drop a.sz us, ← List.take_append_drop a.sz us', one h.1 p1 q1, ih h.2 p2 q2]
      | _ => cases h
theorem pair_cells {a b : Ty} {x : (Ty.pair a b).El} {us : List Value} {off : Nat} (h1 : a.sz = 1) (hc : Cells M (split (.pair a b) x) (us.drop off)) : Cells M (split a x.1) [us.getD off undef] ∧ us[off]? = some (us.getD off undef) ∧ Cells M (split b x.2) (us.drop (off + 1)) := by
  have hc' : Cells M (split a x.1 ++ split b x.2) (us.drop off) := hc
  have t1 := hc'.take a.sz
  have t2 := hc'.drop a.sz
  rw [← split_len a x.1, List.take_left, split_len, h1] at t1
  rw [← split_len a x.1, List.drop_left, split_len, h1, List.drop_drop] at t2
  have hl := t1.length
  rw [split_len, h1, List.length_take, List.length_drop] at hl
  have hlt : off < us.length := by omega
  refine ⟨?_, by simp [List.getD, List.getElem?_eq_getElem hlt], t2⟩
  rw [List.drop_eq_getElem_cons hlt, List.take_succ_cons, List.take_zero] at t1
  have e : us.getD off undef = us[off] := by simp [List.getD, List.getElem?_eq_getElem hlt]
  rw [e]; exact t1
theorem eqFields_ok (ht : TblOk P tbl) (d : Nat) : ∀ {fs : List Field} {off : Nat} {t : Ty}, fieldsTy tbl fs off t = true → ∀ {x y : t.El} {us vs : Array Value}, Cells M (split t x) (us.toList.drop off) → Cells M (split t y) (vs.toList.drop off) →
    (Op.eqFields (d + 1) us vs fs).run P w = .ok (beqT t x y) w := by
  intro fs
  induction fs with
  | nil => intro off t h; cases h
  | cons f fs ih =>
    intro off t h x y us vs hx hy
    cases fs with
    | nil =>
      have h' : scalF tbl f off t = true := h
      have g1 := h'
      unfold scalF at g1
      split at g1
      · rename_i l hl
        simp only [Bool.and_eq_true] at g1
        have e1 := scal_cells g1.1.1 hx
        have e2 := scal_cells g1.1.1 hy
        have a1 : us[off]? = some (valT t x) := by
          have := congrArg (·[0]?) e1
          simpa using this
        have a2 : vs[off]? = some (valT t y) := by
          have := congrArg (·[0]?) e2
          simpa using this
        obtain ⟨hn, p1, _⟩ := scal_part (w := w) ht h' a1
        obtain ⟨_, p2, _⟩ := scal_part (w := w) ht h' a2
        have := scal_eq (w := w) ht hl g1.1.1 x y d
        cases hb : beqT t x y with
        | true => simp [Op.eqFields, hn, p1, p2, this, hb]
        | false => simp [Op.eqFields, hn, p1, p2, this, hb]
      · cases g1
    | cons g fs =>
      cases t with
      | pair a b =>
        simp only [fieldsTy, Bool.and_eq_true] at h
        obtain ⟨h', hr⟩ := h
        have g1 := h'
        unfold scalF at g1
        split at g1
        · rename_i l hl
          simp only [Bool.and_eq_true] at g1
          have h1 := scal_one g1.1.1
          obtain ⟨c1, a1, r1⟩ := pair_cells h1 hx
          obtain ⟨c2, a2, r2⟩ := pair_cells h1 hy
          have e1 := scal_cells g1.1.1 c1
          have e2 := scal_cells g1.1.1 c2
          simp only [List.cons.injEq, and_true] at e1 e2
          rw [e1] at a1; rw [e2] at a2
          obtain ⟨hn, p1, _⟩ := scal_part (w := w) ht h' (us := us) (by simpa using a1)
          obtain ⟨_, p2, _⟩ := scal_part (w := w) ht h' (us := vs) (by simpa using a2)
          have h3 := scal_eq (w := w) ht hl g1.1.1 x.1 y.1 d
          have h4 := ih hr r1 r2
          cases hb : beqT a x.1 y.1 with
          | true =>
            rw [hb] at h3
            simp only [Op.eqFields, hn, ne_eq, not_false_eq_true, if_true, Sem.run_bind, p1, p2, Result.andThen_ok, h3, Bool.not_true, Bool.false_eq_true, if_false]
            rw [show beqT (.pair a b) x y = beqT b x.2 y.2 by simp [beqT, hb]]
            exact h4
          | false =>
            rw [hb] at h3
            simp [Op.eqFields, hn, p1, p2, h3, beqT, hb]
        · cases g1
      | _ => cases h
theorem checkStruct_ok (ht : TblOk P tbl) (em : Bool) (n : Nat) {k : Nat} {fs : Array Field} (hu : P.underlying k = some (.struct fs)) {t : Ty} (h : fieldsTy tbl fs.toList 0 t = true) {x : t.El} {us : Array Value} (hx : Cells M (split t x) us.toList) :
    (Instr.checkKey em (n + 2) k (.agg us)).run P w = .ok () w := by
  unfold Instr.checkKey
  simp only [Sem.run_bind, run_underlying hu, Result.andThen_ok]
  rw [← Array.forIn_toList]
  have hx' : Cells M (split t x) (us.toList.drop 0) := hx
  revert h hx'
  clear hx
  generalize fs.toList = l
  generalize (0 : Nat) = off
  intro h hx
  induction l generalizing off t with
  | nil => cases h
  | cons f fs' ih =>
    cases fs' with
    | nil =>
      have h' : scalF tbl f off t = true := h
      have g1 := h'
      unfold scalF at g1
      split at g1
      · rename_i l hl
        simp only [Bool.and_eq_true] at g1
        have e1 := scal_cells g1.1.1 hx
        have a1 : us[off]? = some (valT t x) := by
          have := congrArg (·[0]?) e1
          simpa using this
        obtain ⟨hn, p1, _⟩ := scal_part (w := w) ht h' a1
        have := scal_check (w := w) ht hl g1.1.1 x em n
        simp [hn, p1, this]
      · cases g1
    | cons g fs' =>
      cases t with
      | pair a b =>
        simp only [fieldsTy, Bool.and_eq_true] at h
        obtain ⟨h', hr⟩ := h
        have g1 := h'
        unfold scalF at g1
        split at g1
        · rename_i l hl
          simp only [Bool.and_eq_true] at g1
          have h1 := scal_one g1.1.1
          obtain ⟨c1, a1, r1⟩ := pair_cells h1 hx
          have e1 := scal_cells g1.1.1 c1
          simp only [List.cons.injEq, and_true] at e1
          rw [e1] at a1
          obtain ⟨hn, p1, _⟩ := scal_part (w := w) ht h' (us := us) (by simpa using a1)
          have h3 := scal_check (w := w) ht hl g1.1.1 x.1 em n
          have h4 := ih (off + 1) hr r1
          rw [List.forIn_cons]
          simp only [hn, ne_eq, not_false_eq_true, if_true, Sem.run_bind, p1, Result.andThen_ok, h3, Sem.run_pure]
          exact h4
        · cases g1
      | _ => cases h

theorem Pk.one {t : Ty} {x : t.El} {v : Value} (h : Pk M false t x v) : Cells M (split t x) [v] := h
theorem Pk.many {t : Ty} {x : t.El} {v : Value} (h : Pk M true t x v) : ∃ us : Array Value, v = .agg us ∧ Cells M (split t x) us.toList := h
theorem beqT_eq : ∀ {t : Ty} {x y : t.El}, beqT t x y = true → x = y
  | .int _, x, y, h => by simpa [beqT] using h
  | .bool, x, y, h => by simpa [beqT] using h
  | .str, x, y, h => by simpa [beqT] using h
  | .sl _, _, _, h => by cases h
  | .pair a b, x, y, h => by
    simp only [beqT, Bool.and_eq_true] at h
    exact Prod.ext (beqT_eq h.1) (beqT_eq h.2)
/-- what a search in a map's entries finds -/
def Found (M : Snap) (va : Bool) (kt vt : Ty) (x : kt.El) (l : List (kt.El × vt.El)) (m : Nat) (r : Option (Nat × Value)) : Prop :=
  (r = none ∧ lookV kt x l = none) ∨ ∃ i u p, r = some (m + i, u) ∧ lookV kt x l = some p.2 ∧ Pk M va vt p.2 u ∧ l[i]? = some p ∧ beqT kt x p.1 = true ∧ ∀ y, setV kt x y l = l.set i (x, y)
theorem setV_none {kt : Ty} {β : Type} {x : kt.El} : ∀ {l : List (kt.El × β)}, lookV kt x l = none → ∀ y, setV kt x y l = l ++ [(x, y)]
  | [], _, _ => rfl
  | p :: l, h, y => by
    cases hb : beqT kt x p.1 with
    | true => simp [lookV, hb] at h
    | false => simp only [lookV, hb, cond_false] at h; simp [setV, hb, setV_none h y]
theorem Found.here {va : Bool} {kt vt : Ty} {x : kt.El} {p : kt.El × vt.El} {l : List (kt.El × vt.El)} {m : Nat} {u : Value} (hb : beqT kt x p.1 = true) (h : Pk M va vt p.2 u) : Found M va kt vt x (p :: l) m (some (m, u)) :=
  .inr ⟨0, u, p, rfl, by simp [lookV, hb], h, rfl, hb, fun y => by simp [setV, hb]⟩
theorem Found.there {va : Bool} {kt vt : Ty} {x : kt.El} {p : kt.El × vt.El} {l : List (kt.El × vt.El)} {m : Nat} {r : Option (Nat × Value)} (hb : beqT kt x p.1 = false) (h : Found M va kt vt x l (m + 1) r) : Found M va kt vt x (p :: l) m r := by
  rcases h with ⟨rfl, h3⟩ | ⟨i, u, p', h3, h4, h5, h6, h7, h8⟩
  · exact .inl ⟨rfl, by simp [lookV, hb, h3]⟩
  · exact .inr ⟨i + 1, u, p', by rw [h3]; congr 2; omega, by simp [lookV, hb, h4], h5, by simpa using h6, h7, fun y => by simp [setV, hb, h8]⟩
theorem findAsking_ok {k : Nat} {ka va : Bool} {kt vt : Ty} (heq : ∀ (x y : kt.El) (u v : Value), Pk M ka kt x u → Pk M ka kt y v → (Op.equal k u v).run P w = .ok (beqT kt x y) w) {x : kt.El} {v : Value} (hx : Pk M ka kt x v)
    {l : List (kt.El × vt.El)} {es : List MapEntry} (m : Nat) (h : Ents M ka va kt vt l es) : ∃ r, (Instr.findAsking k v es m).run P w = .ok r w ∧ Found M va kt vt x l m r := by
  induction h generalizing m with
  | nil => exact ⟨none, rfl, .inl ⟨rfl, rfl⟩⟩
  | @cons p e l es h1 h2 _ ih =>
    have hq := heq x p.1 v e.key hx h1
    cases hb : beqT kt x p.1 with
    | true =>
      rw [hb] at hq
      exact ⟨some (m, e.val), by simp [Instr.findAsking, hq], .here hb h2⟩
    | false =>
      rw [hb] at hq
      obtain ⟨r, hr, hf⟩ := ih (m + 1)
      exact ⟨r, by simp [Instr.findAsking, hq, hr], hf.there hb⟩
theorem findNow_ok {d : TypeDesc} {va : Bool} {kt vt : Ty} (hs : scalTy d kt = true) {x : kt.El}
    {l : List (kt.El × vt.El)} {es : List MapEntry} (m : Nat) (h : Ents M false va kt vt l es) : ∃ r, Instr.findNow d (valT kt x) es m = some r ∧ Found M va kt vt x l m r := by
  induction h generalizing m with
  | nil => exact ⟨none, rfl, .inl ⟨rfl, rfl⟩⟩
  | @cons p e l es h1 h2 _ ih =>
    have hk := scal_cells hs h1.one
    simp only [List.cons.injEq, and_true] at hk
    have hsame : Instr.sameNow d (valT kt x) e.key = some (beqT kt x p.1) := by
      rw [hk]
      unfold scalTy at hs
      split at hs
      · simp [Instr.sameNow, valT, beqT]
      · rfl
      · show some ((show ByteArray from x) == (show ByteArray from p.1)) = _
        congr 1
        show ((show ByteArray from x) == (show ByteArray from p.1)) = decide _
        rw [beq_toListBytes, toList_beq]
      · cases hs
    cases hb : beqT kt x p.1 with
    | true =>
      rw [hb] at hsame
      exact ⟨some (m, e.val), by simp [Instr.findNow, hsame], .here hb h2⟩
    | false =>
      rw [hb] at hsame
      obtain ⟨r, hr, hf⟩ := ih (m + 1)
      exact ⟨r, by simp [Instr.findNow, hsame, hr], hf.there hb⟩
theorem findKey_struct {k : Nat} {fs : Array Field} (hu : P.underlying k = some (.struct fs)) (x : Value) (es : List MapEntry) : (Instr.findKey k x es).run P w = (Instr.findAsking k x es).run P w := by
  cases es with
  | nil => simp [Instr.findKey, run_underlying hu, Instr.findNow, Instr.findAsking]
  | cons e es => simp [Instr.findKey, run_underlying hu, Instr.findNow, Instr.sameNow]

/-- keys of a kind: they are looked at, searched, and stay -/
theorem key_check (ht : TblOk P tbl) {fl : List Nat} {k : Nat} {ka : Bool} {kt : Ty} (hk : keyOk tbl fl k ka kt = true) (em : Bool) {x : kt.El} {v : Value} (hv : Pk M ka kt x v) : (Instr.checkKey em 10000 k v).run P w = .ok () w := by
  unfold keyOk at hk
  split at hk
  · rename_i l hl
    have hu := (ht k l hl).2
    split at hk
    · rename_i fs hd
      rw [hd] at hu
      simp only [Bool.and_eq_true] at hk
      obtain ⟨⟨rfl, _⟩, hf⟩ := hk
      obtain ⟨us, rfl, hc⟩ := hv.many
      exact checkStruct_ok ht em 9998 hu hf hc
    · simp only [Bool.and_eq_true, Bool.not_eq_true'] at hk
      obtain ⟨rfl, hs⟩ := hk
      have := scal_cells hs hv.one
      simp only [List.cons.injEq, and_true] at this
      rw [this]
      exact scal_check ht hl hs x em 9999
  · cases hk
theorem key_find (ht : TblOk P tbl) {fl : List Nat} (hfl : FlatOk P fl) {k : Nat} {ka va : Bool} {kt vt : Ty} (hk : keyOk tbl fl k ka kt = true) {x : kt.El} {v : Value} (hv : Pk M ka kt x v) {l : List (kt.El × vt.El)} {es : List MapEntry} (he : Ents M ka va kt vt l es) :
    ∃ r, (Instr.findKey k v es).run P w = .ok r w ∧ Found M va kt vt x l 0 r := by
  unfold keyOk at hk
  split at hk
  · rename_i ly hl
    have hu := (ht k ly hl).2
    split at hk
    · rename_i fs hd
      rw [hd] at hu
      simp only [Bool.and_eq_true] at hk
      obtain ⟨⟨rfl, hin⟩, hf⟩ := hk
      obtain ⟨_, g2⟩ := hfl k (isIn_mem hin)
      have hp : P.fieldsOf k = fs := by simp [Program.fieldsOf, hu]
      have hs : P.underlying k = some (.struct (P.fieldsOf k)) := by rw [hp]; exact hu
      rw [findKey_struct hu]
      refine findAsking_ok (fun x y u v hx hy => ?_) hv 0 he
      obtain ⟨us, rfl, hc⟩ := hx.many
      obtain ⟨vs, rfl, hc'⟩ := hy.many
      show (Op.equalIn (9999 + 1) k (.agg us) (.agg vs)).run P w = _
      rw [run_equalIn_struct w 9999 k us vs hs g2, hp]
      exact eqFields_ok ht 9998 hf hc hc'
    · simp only [Bool.and_eq_true, Bool.not_eq_true'] at hk
      obtain ⟨rfl, hs⟩ := hk
      have := scal_cells hs hv.one
      simp only [List.cons.injEq, and_true] at this
      rw [this]
      obtain ⟨r, hr, hf⟩ := findNow_ok hs (x := x) 0 he
      exact ⟨r, by simp [Instr.findKey, run_underlying hu, hr], hf⟩
  · cases hk
def plainV : Value → Bool
  | .bool _ | .int .. | .string _ => true
  | _ => false
theorem sameBits_refl (n : Nat) {v : Value} (h : plainV v = true) : Instr.sameBits (n + 1) v v = true := by
  cases v <;> first | (cases h; done) | simp [Instr.sameBits]
  rename_i s
  rw [beq_toListBytes]; simp
theorem sameBits_agg (n : Nat) (us : Array Value) (h : ∀ u ∈ us.toList, plainV u = true) : Instr.sameBits (n + 2) (.agg us) (.agg us) = true := by
  simp only [Instr.sameBits, beq_self_eq_true, Bool.true_and, List.all_eq_true]
  intro p hp
  obtain ⟨i, hi, e⟩ := List.getElem_of_mem hp
  rw [List.getElem_zip] at e
  rw [← e]
  exact sameBits_refl n (h _ (List.getElem_mem _))
theorem fields_plain {fs : List Field} : ∀ {off : Nat} {t : Ty}, fieldsTy tbl fs off t = true → ∀ {x : t.El} {us : List Value}, Cells M (split t x) us → ∀ u ∈ us, plainV u = true := by
  have one : ∀ {d : TypeDesc} {t : Ty} {x : t.El} {us : List Value}, scalTy d t = true → Cells M (split t x) us → ∀ u ∈ us, plainV u = true := fun {d t x us} h hc u hu => by
    have := scal_cells h hc
    subst this
    simp only [List.mem_singleton] at hu
    subst hu
    unfold scalTy at h
    split at h <;> first | rfl | (cases h; done)
  induction fs with
  | nil => intro off t h; cases h
  | cons f fs ih =>
    intro off t h x us hc
    have sc : ∀ {t : Ty}, scalF tbl f off t = true → ∃ d, scalTy d t = true := fun {t} h => by
      unfold scalF at h
      split at h
      · rename_i l _; simp only [Bool.and_eq_true] at h; exact ⟨_, h.1.1⟩
      · cases h
    cases fs with
    | nil => obtain ⟨d, hd⟩ := sc h; exact one hd hc
    | cons g fs =>
      cases t with
      | pair a b =>
        simp only [fieldsTy, Bool.and_eq_true] at h
        obtain ⟨d, hd⟩ := sc h.1
        have hc' : Cells M (split a x.1 ++ split b x.2) us := hc
        have t1 := hc'.take a.sz
        have t2 := hc'.drop a.sz
        rw [← split_len a x.1, List.take_left, split_len] at t1
        rw [← split_len a x.1, List.drop_left, split_len] at t2
        intro u hu
        rw [← List.take_append_drop a.sz us] at hu
        rcases List.mem_append.1 hu with hu | hu
        · exact one hd t1 u hu
        · exact ih h.2 t2 u hu
      | _ => cases h
theorem key_same {fl : List Nat} {k : Nat} {ka : Bool} {kt : Ty} (hk : keyOk tbl fl k ka kt = true) {x y : kt.El} {u v : Value} (hx : Pk M ka kt x u) (hy : Pk M ka kt y v) (hb : beqT kt x y = true) : Instr.sameBits 10000 u v = true := by
  have := beqT_eq hb
  subst this
  unfold keyOk at hk
  split at hk
  · split at hk
    · simp only [Bool.and_eq_true] at hk
      obtain ⟨⟨rfl, _⟩, hf⟩ := hk
      obtain ⟨us, rfl, hc⟩ := hx.many
      obtain ⟨vs, rfl, hc'⟩ := hy.many
      have : us = vs := Array.ext' (fields_vals hf hc hc')
      subst this
      exact sameBits_agg 9998 us (fields_plain hf hc)
    · simp only [Bool.and_eq_true, Bool.not_eq_true'] at hk
      obtain ⟨rfl, hs⟩ := hk
      have e1 := scal_cells hs hx.one
      have e2 := scal_cells hs hy.one
      simp only [List.cons.injEq, and_true] at e1 e2
      rw [e1, e2]
      refine sameBits_refl 9999 ?_
      unfold scalTy at hs
      split at hs <;> first | rfl | (cases hs; done)
  · cases hk
end
end Go.Proofs.YtjebfbkigkjboaaGreatDoor.Sy

/- The calculus, fifteenth part: maps that a call makes; one operation. -/
namespace Go.Proofs.YtjebfbkigkjboaaGreatDoor.Sy
open Go.RowKit Kit

section
variable {P : Program} {tbl : Tbl} {w0 : Base} {w : World} {M0 M : Snap} {β : Plc} {σ : St} {a : Act} {K : Res → Prop}

/-- a new block of any form -/
theorem Rel.allocO (h : Rel w0 M0 M β σ a.tmps w) (s : Nat) {o : Ob} {obj : Obj} (ho : ∀ β', OR M β' (w.alloc obj) o (.inl w.heap.size)) :
    ∃ β', β' s = some (.inl w.heap.size) ∧ Rel w0 M0 M β' (σ.new s o) a.tmps (w.alloc obj) := by
  have hk := h.kill s
  have hb : ∀ j p, (fun j => if j = s then none else β j) j = some p → (fun j => if j = s then some (.inl w.heap.size) else β j) j = some p := fun j p hj => by
    by_cases e : j = s
    · simp [e] at hj
    · simp [e] at hj; simp [e, hj]
  have hw := hk.world (w' := w.alloc obj) ((Below.refl _ _).alloc (Nat.le_refl _) _)
  have hlt : ∀ b o, M b = some o → b < w.heap.size := fun b o hm => h.lt hm
  have hs' : ∀ {j p}, (fun j => if j = s then some (.inl w.heap.size) else β j) j = some p → (j = s ∧ p = .inl w.heap.size) ∨ (j ≠ s ∧ (fun j => if j = s then none else β j) j = some p) := fun {j p} hj => by
    by_cases e : j = s
    · simp [e] at hj; exact .inl ⟨e, hj.symm⟩
    · simp [e] at hj; exact .inr ⟨e, by simp [e, hj]⟩
  refine ⟨fun j => if j = s then some (.inl w.heap.size) else β j, by simp, { hw with apart := ?_, inj := ?_, env := ?_, objs := ?_ }⟩
  · intro j p b hj hp
    rcases hs' hj with ⟨_, rfl⟩ | ⟨_, hj⟩
    · simp [blk] at hp; subst hp
      refine ⟨?_, .inl h.below.size, by simp⟩
      cases hm : M w.heap.size with
      | none => rfl
      | some o => have := hlt _ _ hm; omega
    · exact hw.apart j p b hj hp
  · intro j k p q b hj hk' hp hq
    rcases hs' hj with ⟨rfl, rfl⟩ | ⟨_, hj⟩ <;> rcases hs' hk' with ⟨rfl, rfl⟩ | ⟨_, hk'⟩
    · rfl
    · simp [blk] at hp; subst hp
      have := (hk.apart k q _ hk' hq).2.2; omega
    · simp [blk] at hq; subst hq
      have := (hk.apart j p _ hj hp).2.2; omega
    · exact hk.inj j k p q b hj hk' hp hq
  · intro t x hx
    obtain ⟨v, hv, hr⟩ := hk.env t x hx
    exact ⟨v, hv, hr.weak (fun _ _ h => h) hb⟩
  · intro j o' ho'
    simp only [St.new, St.obj, get_put] at ho'
    split at ho'
    · rename_i e; subst e; cases ho'
      exact ⟨.inl w.heap.size, by simp, ho _⟩
    · obtain ⟨p, hp, hr⟩ := hw.objs j o' ho'
      exact ⟨p, hb j p hp, hr.weak (fun _ _ h => h) hb⟩
/-- own map i is written -/
theorem Rel.mapWritten (h : Rel w0 M0 M β σ a.tmps w) {i b : Nat} (hb : β i = some (.inl b)) {o : Ob} {es : Array MapEntry} {c : Nat} {es' : Array MapEntry} {c' : Nat} (hold : w.heap[b]? = some (.map es c))
    (ho : OR M β { w with heap := w.heap.setIfInBounds b (.map es' c') } o (.inl b)) : Rel w0 M0 M β (σ.obj i o) a.tmps { w with heap := w.heap.setIfInBounds b (.map es' c') } := by
  obtain ⟨hMb, hB, hlt⟩ := h.apart i _ b hb rfl
  have hoth : ∀ k, k ≠ b → (w.heap.setIfInBounds b (.map es' c'))[k]? = w.heap[k]? := fun k hk => by simp [Ne.symm hk]
  refine { h with below := ?_, snap := ?_, apart := ?_, objs := ?_ }
  · refine ⟨h.below.os, h.below.tape, h.below.output, by simpa using h.below.size, fun k hk hl => ?_⟩
    refine (hoth k fun e => ?_).trans (h.below.block k hk hl)
    subst e
    rcases hB with h1 | h1
    · omega
    · exact hl h1
  · intro k o hk
    show (w.heap.setIfInBounds b (.map es' c'))[k]? = _
    rw [hoth k (fun e => by subst e; rw [hMb] at hk; cases hk)]
    exact h.snap k o hk
  · intro j q k hj hq
    obtain ⟨h1, h2, h3⟩ := h.apart j q k hj hq
    exact ⟨h1, h2, by simpa using h3⟩
  · intro j o' hj
    simp only [St.obj, get_put] at hj
    by_cases e : i = j
    · subst e
      simp at hj; subst hj
      exact ⟨_, hb, ho⟩
    · simp [e] at hj
      obtain ⟨p, hp, hr⟩ := h.objs j o' hj
      refine ⟨p, hp, hr.world fun k hk => hoth k (fun e' => ?_)⟩
      subst e'
      exact e (h.inj i j _ p k hb hp rfl hk)

/-- a value, as a datum of a kind -/
def pkC (ag : Bool) (t : Ty) : SV → Option t.El
  | .e (.agg cs) => if ag then (toDs cs).bind (join t) else none
  | .e (.c c) => if ag then none else (toD c).bind fun d => join t [d]
  | _ => none
def unpk (ag : Bool) (t : Ty) (x : t.El) : Option EV :=
  if ag then some (.agg ((split t x).map .d)) else match split t x with | [d] => some (.c (.d d)) | _ => none
theorem pkC_ok {ag : Bool} {t : Ty} {x : SV} {v : Value} (hx : SVR M β x v) {y : t.El} (h : pkC ag t x = some y) : Pk M ag t y v := by
  unfold pkC at h
  split at h
  · rename_i cs
    split at h
    · rename_i e; subst e
      obtain ⟨vs, e, hc⟩ := hx
      obtain ⟨ds, h1, h2⟩ := Option.bind_eq_some_iff.1 h
      exact ⟨vs, e, join_ok t h2 (toDs_ok hc h1)⟩
    · cases h
  · rename_i c
    split at h
    · cases h
    · rename_i e
      have e' : ag = false := by simpa using e
      subst e'
      obtain ⟨d, h1, h2⟩ := Option.bind_eq_some_iff.1 h
      exact join_ok t h2 (.cons (toD_ok hx h1) .nil)
  · cases h
theorem unpk_ok {ag : Bool} {t : Ty} {x : t.El} {v : Value} (hv : Pk M ag t x v) {e : EV} (h : unpk ag t x = some e) : EVR M β e v := by
  unfold unpk at h
  split at h
  · rename_i e'; subst e'
    cases h
    obtain ⟨us, rfl, hc⟩ := hv.many
    exact ⟨us, rfl, .ofCells hc⟩
  · rename_i e'
    have e'' : ag = false := by simpa using e'
    subst e''
    split at h
    · rename_i d hd
      cases h
      have := hv.one
      rw [hd] at this
      cases this with
      | cons h1 _ => exact h1
    · cases h

def doMakeMap (tbl : Tbl) (σ : St) (s t : Nat) (r : Option Operand) : Tr Res :=
  match get tbl t with
  | some l =>
    match l.desc with
    | .map k e =>
      match get tbl k, get tbl e with
      | some lk, some le =>
        match lk.ty, le.ty, (match r with | none => true | some x => (ev σ x).int.isSome) with
        | some kt, some vt, true => .ret (.e (.c (.mp s)), newC σ.objs s (.map (isAggD lk.desc) (isAggD le.desc) kt vt []))
        | _, _, _ => .fail
      | _, _ => .fail
    | _ => .fail
  | none => .fail
theorem doMakeMap_ok (ht : TblOk P tbl) (h : Rel w0 M0 M β σ a.tmps w) {s t : Nat} {r : Option Operand} (hk : (doMakeMap tbl σ s t r).sat K) : Owes P w0 M0 σ K a.tmps w (Instr.makeMap t (r.map a.eval)) := by
  unfold doMakeMap at hk
  split at hk
  · rename_i l hl
    have hu := (ht t l hl).2
    split at hk
    · rename_i k e hd
      rw [hd] at hu
      split at hk
      · rename_i lk le _ _
        split at hk
        · rename_i kt vt _ _ hr
          obtain ⟨β', hb, hrel⟩ := h.allocO s (o := .map (isAggD lk.desc) (isAggD le.desc) kt vt []) (obj := .map #[] 0) (fun β' => ⟨#[], 0, heap_alloc_new w _, .nil⟩)
          refine ⟨_, _, .map (some w.heap.size), _, hk, ?_, M, β', hrel, _, hb, rfl⟩
          cases r with
          | none => simp [Instr.makeMap]
          | some x =>
            simp only [Option.isSome_iff_exists] at hr
            obtain ⟨n, hn⟩ := hr
            obtain ⟨kk, e1⟩ := (ev_ok h x).int hn
            simp [Instr.makeMap, e1, run_underlying hu, asInt, asIntOf]
        · exact hk.elim
      · exact hk.elim
    · exact hk.elim
  · exact hk.elim

def lkRes (ok : Bool) (v : EV) (b : Bool) : SV := if ok then .tup [v, .c (.d (.v (.bool b)))] else .e v
def doLookup (tbl : Tbl) (fl : List Nat) (σ : St) (t : Nat) (x ix : Operand) (ok : Bool) : Tr Res :=
  match get tbl t with
  | some l =>
    match l.desc with
    | .map k e =>
      match get tbl e with
      | some le =>
        match ev σ x with
        | .e (.c (.mp i)) =>
          match get σ.objs i with
          | some (.map ka va kt vt es) =>
            match keyOk tbl fl k ka kt, pkC ka kt (ev σ ix), pkC va vt (.e (constE le.zero)) with
            | true, some key, some z =>
              match unpk va vt ((lookV kt key es).getD z) with
              | some v => .ret (lkRes ok v (lookV kt key es).isSome, none)
              | none => .fail
            | _, _, _ => .fail
          | _ => .fail
        | _ => .fail
      | none => .fail
    | _ => .fail
  | none => .fail
theorem doLookup_ok (ht : TblOk P tbl) {fl : List Nat} (hf : FlatOk P fl) (h : Rel w0 M0 M β σ a.tmps w) {t : Nat} {x ix : Operand} {ok : Bool} (hk : (doLookup tbl fl σ t x ix ok).sat K) : Owes P w0 M0 σ K a.tmps w (Instr.lookup t (a.eval x) (a.eval ix) ok) := by
  unfold doLookup at hk
  split at hk
  · rename_i l hl
    have hu := (ht t l hl).2
    split at hk
    · rename_i k e hd
      rw [hd] at hu
      split at hk
      · rename_i le hle
        have hx := ev_ok h x
        split at hk
        · rename_i i he
          rw [he] at hx
          obtain ⟨b, hb, hv⟩ := (show CVR M β (.mp i) (a.eval x) from hx)
          split at hk
          · rename_i ka va kt vt es ho
            split at hk
            · rename_i key z hko hkey hz
              split at hk
              · rename_i v hv'
                obtain ⟨ents, c, hw, hes⟩ := map_at h hb ho
                have hkv := pkC_ok (ev_ok h ix) hkey
                have hzv := pkC_ok (M := M) (β := β) (x := .e (constE le.zero)) (constE_ok M β le.zero) hz
                have hch := key_check (w := w) ht hko (ents.isEmpty) hkv
                obtain ⟨r, hr, hfd⟩ := key_find (w := w) ht hf hko hkv hes
                have hget := getObj_map (P := P) hw
                rw [hv]
                rcases hfd with ⟨rfl, h1⟩ | ⟨j, u, p, rfl, h1, h2, _⟩
                · have hEV : EVR M β v le.zero := unpk_ok hzv (by rw [h1] at hv'; exact hv')
                  rw [h1] at hk
                  cases ok with
                  | true => exact Owes.here h hk (v := .tuple #[le.zero, .bool false]) (by simp [Instr.lookup, run_underlying hu, hget, hch, hr, zero_run ht hle]) ⟨_, rfl, .cons hEV (.cons (DR.v rfl) .nil)⟩
                  | false => exact Owes.here h hk (v := le.zero) (by simp [Instr.lookup, run_underlying hu, hget, hch, hr, zero_run ht hle]) hEV
                · have hEV : EVR M β v u := unpk_ok h2 (by rw [h1] at hv'; exact hv')
                  rw [h1] at hk
                  cases ok with
                  | true => exact Owes.here h hk (v := .tuple #[u, .bool true]) (by simp [Instr.lookup, run_underlying hu, hget, hch, hr]) ⟨_, rfl, .cons hEV (.cons (DR.v rfl) .nil)⟩
                  | false => exact Owes.here h hk (v := u) (by simp [Instr.lookup, run_underlying hu, hget, hch, hr]) hEV
              · exact hk.elim
            · exact hk.elim
          · exact hk.elim
        · exact hk.elim
      · exact hk.elim
    · exact hk.elim
  · exact hk.elim

def doMapUpdate (tbl : Tbl) (fl : List Nat) (σ : St) (t : Nat) (m k x : Operand) : Tr Chg :=
  match get tbl t with
  | some l =>
    match l.desc with
    | .map kT _ =>
      match ev σ m with
      | .e (.c (.mp i)) =>
        match get σ.objs i with
        | some (.map ka va kt vt es) =>
          match keyOk tbl fl kT ka kt, pkC ka kt (ev σ k), pkC va vt (ev σ x) with
          | true, some key, some y => .ret (objC σ.objs i (.map ka va kt vt (setV kt key y es)))
          | _, _, _ => .fail
        | _ => .fail
      | _ => .fail
    | _ => .fail
  | none => .fail
theorem Ents.at_ {ka va : Bool} {kt vt : Ty} {l : List (kt.El × vt.El)} {es : List MapEntry} (h : Ents M ka va kt vt l es) : ∀ {i : Nat} {p : kt.El × vt.El}, l[i]? = some p → ∃ e, es[i]? = some e ∧ Pk M ka kt p.1 e.key ∧ Pk M va vt p.2 e.val := by
  induction h with
  | nil => intro i p hi; simp at hi
  | cons h1 h2 _ ih =>
    intro i p hi
    cases i with
    | zero => simp at hi; subst hi; exact ⟨_, rfl, h1, h2⟩
    | succ i => exact ih (by simpa using hi)
theorem Ents.set {ka va : Bool} {kt vt : Ty} {l : List (kt.El × vt.El)} {es : List MapEntry} (h : Ents M ka va kt vt l es) {x : kt.El} {y : vt.El} {e : MapEntry} (h1 : Pk M ka kt x e.key) (h2 : Pk M va vt y e.val) : ∀ i, Ents M ka va kt vt (l.set i (x, y)) (es.set i e) := by
  induction h with
  | nil => intro i; simp; exact .nil
  | cons a b c ih =>
    intro i
    cases i with
    | zero => exact .cons h1 h2 c
    | succ i => exact .cons a b (ih i)
theorem Ents.snoc {ka va : Bool} {kt vt : Ty} {l : List (kt.El × vt.El)} {es : List MapEntry} (h : Ents M ka va kt vt l es) {x : kt.El} {y : vt.El} {e : MapEntry} (h1 : Pk M ka kt x e.key) (h2 : Pk M va vt y e.val) : Ents M ka va kt vt (l ++ [(x, y)]) (es ++ [e]) := by
  induction h with
  | nil => exact .cons h1 h2 .nil
  | cons a b _ ih => exact .cons a b ih
theorem doMapUpdate_ok (ht : TblOk P tbl) {fl : List Nat} (hf : FlatOk P fl) (h : Rel w0 M0 M β σ a.tmps w) {t : Nat} {m k x : Operand} {K : Chg → Prop} (hk : (doMapUpdate tbl fl σ t m k x).sat K) :
    ∃ ch w', K ch ∧ (Instr.mapUpdate t (a.eval m) (a.eval k) (a.eval x)).run P w = .ok () w' ∧ Rel w0 M0 M β (σ.app ch) a.tmps w' := by
  unfold doMapUpdate at hk
  split at hk
  · rename_i l hl
    have hu := (ht t l hl).2
    split at hk
    · rename_i kT e hd
      rw [hd] at hu
      have hm := ev_ok h m
      split at hk
      · rename_i i he
        rw [he] at hm
        obtain ⟨b, hb, hv⟩ := (show CVR M β (.mp i) (a.eval m) from hm)
        split at hk
        · rename_i ka va kt vt es ho
          split at hk
          · rename_i key y hko hkey hy
            obtain ⟨ents, c, hw, hes⟩ := map_at h hb ho
            have hkv := pkC_ok (ev_ok h k) hkey
            have hyv := pkC_ok (ev_ok h x) hy
            have hch := key_check (w := w) ht hko false hkv
            obtain ⟨r, hr, hfd⟩ := key_find (w := w) ht hf hko hkv hes
            have hget := getObj_map (P := P) hw
            rw [hv]
            have hlt := (Array.getElem?_eq_some_iff.1 hw).1
            rcases hfd with ⟨rfl, h1⟩ | ⟨j, u, p, rfl, h1, h2, h3, h4, h5⟩
            · refine ⟨_, { w with heap := w.heap.setIfInBounds b (.map (ents.push ⟨a.eval k, a.eval x, c⟩) (c + 1)) }, hk, ?_, ?_⟩
              · have hset := setObj_map (P := P) hw (.map (ents.push ⟨a.eval k, a.eval x, c⟩) (c + 1))
                simp [Instr.mapUpdate, run_underlying hu, hget, hch, hr, hset]
              · rw [app_objC]
                refine h.mapWritten hb hw ⟨ents.push ⟨a.eval k, a.eval x, c⟩, c + 1, by simp [hlt], ?_⟩
                rw [setV_none h1 y, Array.toList_push]
                exact hes.snoc hkv hyv
            · obtain ⟨e0, he0, hpk, hpv⟩ := hes.at_ h3
              rw [Nat.zero_add] at hr
              have hj : j < ents.size := by have := (List.getElem?_eq_some_iff.1 he0).1; simpa using this
              have heq : ents[j] = e0 := by
                have := he0
                rw [Array.getElem?_toList, Array.getElem?_eq_getElem hj] at this
                simpa using this
              have hsb := key_same hko hpk hkv (by have e := beqT_eq h4; have h4' := h4; rw [e] at h4'; rw [e]; exact h4')
              refine ⟨_, { w with heap := w.heap.setIfInBounds b (.map (ents.modify j fun e => { e with key := a.eval k, val := a.eval x }) c) }, hk, ?_, ?_⟩
              · have hset := setObj_map (P := P) hw (.map (ents.modify j fun e => { e with key := a.eval k, val := a.eval x }) c)
                have hkey' : (ents[j]?).map (·.key) = some e0.key := by rw [Array.getElem?_eq_getElem hj, heq]; rfl
                simp [Instr.mapUpdate, run_underlying hu, hget, hch, hr, hkey', Instr.keyThatStays, hsb, hset]
              · rw [app_objC]
                refine h.mapWritten hb hw ⟨ents.modify j fun e => { e with key := a.eval k, val := a.eval x }, c, by simp [hlt], ?_⟩
                rw [h5 y]
                have : (ents.modify j fun e => { e with key := a.eval k, val := a.eval x }).toList = ents.toList.set j { e0 with key := a.eval k, val := a.eval x } := by
                  apply List.ext_getElem?
                  intro q
                  rw [Array.getElem?_toList, Array.getElem?_modify, List.getElem?_set]
                  by_cases e : j = q
                  · subst e
                    simp [heq, hj]
                  · simp [e]
                rw [this]
                exact hes.set hkv hyv j
          · exact hk.elim
        · exact hk.elim
      · exact hk.elim
    · exact hk.elim
  · exact hk.elim

def imin (x y : Int) : Int := if y < x then y else x
def imax (x y : Int) : Int := if x < y then y else x
def doMin (σ : St) (mx : Bool) (x y : Operand) : Tr Res :=
  match (ev σ x).val, (ev σ y).val with
  | some (.int k p), some (.int _ q) => .ret (SV.of (.int k (bif mx then imax p q else imin p q)), none)
  | _, _ => .fail
theorem doMin_ok (h : Rel w0 M0 M β σ a.tmps w) {x y : Operand} (hk : (doMin σ false x y).sat K) (t : Array TypeId) (ty : TypeId) : Owes P w0 M0 σ K a.tmps w (Builtin.min_ t ty #[a.eval x, a.eval y]) := by
  unfold doMin at hk
  split at hk
  · rename_i k p k' q h1 h2
    have e1 := ((ev_ok h x).val h1).1
    have e2 := ((ev_ok h y).val h2).1
    rw [e1, e2]
    exact Owes.here h hk (by simp [Builtin.min_, Builtin.min2, imin]) (SVR.of rfl)
  · exact hk.elim
theorem doMax_ok (h : Rel w0 M0 M β σ a.tmps w) {x y : Operand} (hk : (doMin σ true x y).sat K) (t : Array TypeId) (ty : TypeId) : Owes P w0 M0 σ K a.tmps w (Builtin.max_ t ty #[a.eval x, a.eval y]) := by
  unfold doMin at hk
  split at hk
  · rename_i k p k' q h1 h2
    have e1 := ((ev_ok h x).val h1).1
    have e2 := ((ev_ok h y).val h2).1
    rw [e1, e2]
    exact Owes.here h hk (by simp [Builtin.max_, Builtin.max2, imax]) (SVR.of rfl)
  · exact hk.elim

/-- a field of a struct's value -/
def doFieldV (tbl : Tbl) (σ : St) (t : Nat) (x : Operand) (f : Nat) : Tr Res :=
  match fieldOf tbl t f, ev σ x with
  | some (off, lf), .e (.agg cs) =>
    if isAggD lf.desc then Tr.need (decide (off + lf.size ≤ cs.length)) (.ret (.e (.agg ((cs.drop off).take lf.size)), none))
    else match cs[off]? with
      | some c => .ret (.e (.c c), none)
      | none => .fail
  | _, _ => .fail
theorem doFieldV_ok (ht : TblOk P tbl) (h : Rel w0 M0 M β σ a.tmps w) {t f : Nat} {x : Operand} (hk : (doFieldV tbl σ t x f).sat K) : Owes P w0 M0 σ K a.tmps w (Instr.field t (a.eval x) f) := by
  unfold doFieldV at hk
  split at hk
  · rename_i off lf cs hf he
    obtain ⟨fs, fd, hu, hfd, rfl, hl, hz, hsz⟩ := fieldOf_ok ht hf
    have hx := ev_ok h x
    rw [he] at hx
    obtain ⟨vs, e, hc⟩ := hx
    rw [e]
    have hut := (ht _ _ hl).2
    split at hk
    · rename_i hag
      obtain ⟨hle, hk⟩ := Tr.sat_need hk
      simp only [decide_eq_true_eq] at hle
      have hlen := hc.length
      simp at hlen
      refine Owes.here h hk (v := .agg (vs.extract fd.offset (fd.offset + lf.size))) ?_ ⟨_, rfl, ?_⟩
      · have hagt : isAggD lf.desc = true := hag
        have hp : (part fd.type vs fd.offset).run P w = .ok (.agg (vs.extract fd.offset (fd.offset + lf.size))) w := by
          generalize lf.desc = d at hut hagt
          have hnot : ¬ (vs.size < fd.offset + lf.size) := by omega
          cases d <;> simp [isAggD] at hagt <;> simp [part, isAgg, run_underlying hut, hsz, hnot]
        simp [Instr.field, run_underlying hu, hfd, asAgg, hp]
      · have := (hc.drop fd.offset).take lf.size
        have e2 : (vs.extract fd.offset (fd.offset + lf.size)).toList = (vs.toList.drop fd.offset).take lf.size := by
          simp [Array.toList_extract, List.extract_eq_take_drop]
        rw [e2]; exact this
    · rename_i hag
      split at hk
      · rename_i c hcell
        obtain ⟨u, hu', hr⟩ := hc.at_ hcell
        have hp := part_ok (w := w) ht hl (by simpa using hag) (cs := vs) (off := fd.offset) (v := u) (by simpa using hu')
        exact Owes.here h hk (by simp [Instr.field, run_underlying hu, hfd, asAgg, hp]) hr
      · exact hk.elim
  · exact hk.elim
end
end Go.Proofs.YtjebfbkigkjboaaGreatDoor.Sy

/- The calculus, sixteenth part: one operation. -/
namespace Go.Proofs.YtjebfbkigkjboaaGreatDoor.Sy
open Go.RowKit Kit

/-- what the walk of a function leans on -/
structure Cx where
  tbl : Tbl
  fl : List Nat                  -- types of structs that are compared
  Γ : List (Nat × Ctr)           -- what is called, and writes nothing that it is handed
  Λ : List (Nat × Ctr)           -- what is called, and may
  mu : List Nat                  -- slots whose block is written later
structure CxOk (P : Program) (C : Cx) : Prop where
  ht : TblOk P C.tbl
  hf : FlatOk P C.fl
  hΓ : GOk P C.Γ
  hΛ : GOk P C.Λ

/-- where this mark stands, sums of the widest signed kind may go round -/
def WR : Nat := 5000000
def doBinW (tbl : Tbl) (fl : List Nat) (σ : St) (op : BinOp) (t : TypeId) (x y : Operand) : Tr Res :=
  match op, (ev σ x).val, (ev σ y).val with
  | .add, some (.int .i64 a), some (.int .i64 b) => .ret (SV.of (.int .i64 (IntKind.wrap .i64 (a + b))), none)
  | _, _, _ => doBinG tbl fl σ op t x y
theorem doBinW_ok {P : Program} {w0 : Base} {w : World} {M0 M : Snap} {β : Plc} {σ : St} {a : Act} {tbl : Tbl} {K : Res → Prop} (ht : TblOk P tbl) {fl : List Nat} (hf : FlatOk P fl) (h : Rel w0 M0 M β σ a.tmps w) {op : BinOp} {t : TypeId} {x y : Operand} (hk : (doBinW tbl fl σ op t x y).sat K) :
    Owes P w0 M0 σ K a.tmps w (do eqGuard op t x y (a.eval x) (a.eval y); binOp op t (a.eval x) (a.eval y)) := by
  unfold doBinW at hk
  split at hk
  · rename_i u v e1 e2
    have hx := (ev_ok h x).val e1
    have hy := (ev_ok h y).val e2
    refine ⟨_, none, _, w, hk, ?_, M, β, h, SVR.of rfl⟩
    rw [hx.1, hy.1, eqGuard_at_int, binOp_add]; rfl
  · exact doBinG_ok ht hf h hk
def stepOp (C : Cx) (σ : St) (s : Nat) (op : Op) : Tr Res :=
  match op with
  | .move x | .assign x => .ret (ev σ x, none)
  | .pick c a b => doPick σ c a b
  | .alloc t => doAlloc C.tbl σ s t
  | .box t x => doBox σ (isIn C.mu s) s t x
  | .build t ps => doBuild C.tbl σ t ps.toList
  | .buildSlice t n ps => doBuildSlice C.tbl σ (isIn C.mu s) s t n ps.toList
  | .load t x => doLoad C.tbl σ t x
  | .store t x y => (doStore C.tbl σ t x y).bind fun ch => .ret (.e (.c .und), ch)
  | .nilCheck x => doNil σ x
  | .binOp op t x y _ => bif isIn C.mu WR then doBinW C.tbl C.fl σ op t x y else doBinG C.tbl C.fl σ op t x y
  | .unOp op _ x => doUn σ op x
  | .convert s t x => doConv C.tbl σ s t x
  | .makeSlice t l c => doMake C.tbl σ s t l c
  | .makeMap t r => doMakeMap C.tbl σ s t r
  | .slice t x lo hi mx => doSlice C.tbl σ t x lo hi mx
  | .fieldAddr t x f => doField C.tbl σ t x f
  | .field t x f => doFieldV C.tbl σ t x f
  | .index t x i => doIndex C.tbl σ t x i
  | .indexAddr t x i => doIndexAddr C.tbl σ t x i
  | .lookup t x i ok => doLookup C.tbl C.fl σ t x i ok
  | .mapUpdate t m k x => (doMapUpdate C.tbl C.fl σ t m k x).bind fun ch => .ret (.e (.c .und), ch)
  | .extract x i => doExtract σ x i
  | .call ⟨.value (.func f), args, _⟩ => doCall C.Γ C.Λ σ s f args.toList
  | .call ⟨.builtin .len, ⟨[x]⟩, ⟨[t]⟩⟩ => doLen C.tbl σ t x
  | .call ⟨.builtin .append, ⟨[x, y]⟩, ⟨[t, u]⟩⟩ => doAppends C.tbl σ s t u x y
  | .call ⟨.builtin .copy, ⟨[x, y]⟩, ⟨[t, u]⟩⟩ => doCopy C.tbl σ t u x y
  | .call ⟨.builtin .min, ⟨[x, y]⟩, _⟩ => doMin σ false x y
  | .call ⟨.builtin .max, ⟨[x, y]⟩, _⟩ => doMin σ true x y
  | .call ⟨.value (.tmp g), args, _⟩ => doCallF C.Γ C.Λ σ s g args.toList
  | .makeFunc (.func f) ⟨[]⟩ caps => doFunc σ s f caps.toList
  | .call ⟨.builtin .clear, ⟨[x]⟩, ⟨[t]⟩⟩ => doClear C.tbl σ t x
  | .call ⟨.builtin .cap, ⟨[x]⟩, ⟨[t]⟩⟩ => doCap C.tbl σ t x
  | _ => .fail

section
variable {P : Program} {w0 : Base} {w : World} {M0 M : Snap} {β : Plc} {σ : St} {a : Act}
theorem Owes.wp {o : Oper} {K : Res → Prop} {s : Sem Value} {next : Act → World → Prop} {Q : Exit → Act → World → Prop} (hs : (execOp a.eval o).run P w = (do pure (.value (← s)) : Sem Next).run P w) (h : Owes P w0 M0 σ K a.tmps w s)
    (hn : ∀ x ch v w' M' β', K (x, ch) → Rel w0 M0 M' β' (σ.app ch) a.tmps w' → SVR M' β' x v → next (a.put o.dst v) w') : o.wp P a w next Q := by
  obtain ⟨x, ch, v, w', hk, hrun, M', β', hr, hv⟩ := h
  unfold Oper.wp
  rw [hs]
  simp only [Sem.run_bind, hrun, Result.andThen_ok, Sem.run_pure, Oper.upon_value]
  exact hn x ch v w' M' β' hk hr hv

theorem stepOp_ok {C : Cx} (hC : CxOk P C) (h : Rel w0 M0 M β σ a.tmps w) {o : Oper} {K : Res → Prop} (hk : (stepOp C σ (o.dst.getD 0) o.op).sat K) {next : Act → World → Prop} {Q : Exit → Act → World → Prop}
    (hn : ∀ x ch v w' M' β', K (x, ch) → Rel w0 M0 M' β' (σ.app ch) a.tmps w' → SVR M' β' x v → next (a.put o.dst v) w') : o.wp P a w next Q := by
  obtain ⟨dst, op, type, pos, after, guard⟩ := o
  simp only at hn
  unfold stepOp at hk
  simp only at hk
  split at hk
  · exact Owes.wp (s := pure _) (by simp [execOp]) (Owes.here h hk rfl (ev_ok h _)) hn
  · exact Owes.wp (s := pure _) (by simp [execOp]) (Owes.here h hk rfl (ev_ok h _)) hn
  · refine Owes.wp ?_ (doPick_ok h hk) hn
    rename_i c x y
    simp only [execOp, Sem.run_bind, Sem.run_pure]
    cases (asBool (a.eval c)).run P w <;> rfl
  · exact Owes.wp rfl (doAlloc_ok hC.ht h hk) hn
  · exact Owes.wp rfl (doBox_ok h hk) hn
  · exact Owes.wp rfl (doBuild_ok hC.ht h hk) hn
  · exact Owes.wp rfl (doBuildSlice_ok hC.ht h hk) hn
  · exact Owes.wp rfl (doLoad_ok hC.ht h hk) hn
  · rename_i t x y
    obtain ⟨ch, w', hk', hrun, hr⟩ := doStore_ok hC.ht h (Tr.sat_bind hk)
    unfold Oper.wp
    have : (execOp a.eval ⟨dst, .store t x y, type, pos, after, guard⟩).run P w = .ok .skip w' := by
      simp [execOp, hrun]
    rw [this, Oper.upon_skip]
    exact hn _ ch undef w' M β hk' hr rfl
  · rename_i x
    obtain ⟨ad, y, hk', e, hr⟩ := doNil_ok h hk
    unfold Oper.wp
    have : (execOp a.eval ⟨dst, .nilCheck x, type, pos, after, guard⟩).run P w = .ok (.value (.pointer (some ad))) w := by
      simp [execOp, e]
    rw [this, Oper.upon_value]
    exact hn _ none _ w M β hk' h hr
  · cases hw : isIn C.mu WR with
    | false => rw [hw] at hk; exact Owes.wp rfl (doBinG_ok hC.ht hC.hf h hk) hn
    | true => rw [hw] at hk; exact Owes.wp rfl (doBinW_ok hC.ht hC.hf h hk) hn
  · exact Owes.wp rfl (doUn_ok h hk) hn
  · exact Owes.wp rfl (doConv_ok hC.ht h hk) hn
  · exact Owes.wp rfl (doMake_ok hC.ht h hk) hn
  · exact Owes.wp rfl (doMakeMap_ok hC.ht h hk) hn
  · exact Owes.wp rfl (doSlice_ok hC.ht h hk) hn
  · exact Owes.wp rfl (doField_ok hC.ht h hk) hn
  · exact Owes.wp rfl (doFieldV_ok hC.ht h hk) hn
  · exact Owes.wp rfl (doIndex_ok hC.ht h hk) hn
  · exact Owes.wp rfl (doIndexAddr_ok hC.ht h hk) hn
  · exact Owes.wp rfl (doLookup_ok hC.ht hC.hf h hk) hn
  · rename_i t m k x
    obtain ⟨ch, w', hk', hrun, hr⟩ := doMapUpdate_ok hC.ht hC.hf h (Tr.sat_bind hk)
    unfold Oper.wp
    have : (execOp a.eval ⟨dst, .mapUpdate t m k x, type, pos, after, guard⟩).run P w = .ok .skip w' := by
      simp [execOp, hrun]
    rw [this, Oper.upon_skip]
    exact hn _ ch undef w' M β hk' hr rfl
  · exact Owes.wp rfl (doExtract_ok h hk) hn
  · rename_i f args ats
    obtain ⟨⟨fn, c, hf, hname, hb⟩, hcall⟩ := doCall_ok hC.hΓ hC.hΛ h hk
    unfold Oper.wp
    have : ∀ W : World, (execOp a.eval ⟨dst, .call ⟨.value (.func f), args, ats⟩, type, pos, after, guard⟩).run P W = .ok (.enter f (args.toList.map a.eval).toArray) W := fun W => by
      have h1 : fn.name ≠ "runtime.NumGoroutine" := by simpa using hname
      have hr : (callFunc f (args.map a.eval)).run P W = .ok (.enter f (args.map a.eval)) W := by simp [callFunc, hf, h1, hb]
      have e1 : (args.toList.map a.eval).toArray = args.map a.eval := by apply Array.ext'; simp
      rw [e1]
      simp [execOp, resolve, Act.eval, Deferred.ofValue, invoke, hr]
    rw [this, Oper.upon_enter]
    refine hcall.mono fun e w' ⟨x, ch, v, M', β', hx, he, hr, hv⟩ => ?_
    subst he
    exact hn x ch v w' M' β' hx hr hv
  · exact Owes.wp (by simp [execOp, resolve, invoke, builtin]; rfl) (doLen_ok hC.ht h hk) hn
  · exact Owes.wp (by simp [execOp, resolve, invoke, builtin]; rfl) (doAppends_ok hC.ht h hk) hn
  · exact Owes.wp (by simp [execOp, resolve, invoke, builtin]; rfl) (doCopy_ok hC.ht h hk) hn
  · exact Owes.wp (by simp [execOp, resolve, invoke, builtin]; rfl) (doMin_ok h hk _ _) hn
  · exact Owes.wp (by simp [execOp, resolve, invoke, builtin]; rfl) (doMax_ok h hk _ _) hn
  · rename_i g args ats
    obtain ⟨f, cs, ef, ⟨fn, c, hf, hname, hb⟩, hcall⟩ := doCallF_ok hC.hΓ hC.hΛ h hk
    unfold Oper.wp
    have : ∀ W : World, (execOp a.eval ⟨dst, .call ⟨.value (.tmp g), args, ats⟩, type, pos, after, guard⟩).run P W = .ok (.enter f (args.toList.map a.eval ++ cs.toList).toArray) W := fun W => by
      have h1 : fn.name ≠ "runtime.NumGoroutine" := by simpa using hname
      have hr : (callFunc f (args.map a.eval ++ cs)).run P W = .ok (.enter f (args.map a.eval ++ cs)) W := by simp [callFunc, hf, h1, hb]
      have e1 : (args.toList.map a.eval ++ cs.toList).toArray = args.map a.eval ++ cs := by apply Array.ext'; simp
      rw [e1]
      simp [execOp, resolve, ef, Deferred.ofValue, invoke, hr]
    rw [this, Oper.upon_enter]
    refine hcall.mono fun e w' ⟨x, ch, v, M', β', hx, he, hr, hv⟩ => ?_
    subst he
    exact hn x ch v w' M' β' hx hr hv
  · exact Owes.wp (by simp [execOp]) (doFunc_ok h hk) hn
  · exact Owes.wp (by simp [execOp, resolve, invoke, builtin]; rfl) (doClear_ok hC.ht h hk) hn
  · exact Owes.wp (by simp [execOp, resolve, invoke, builtin]; rfl) (doCap_ok hC.ht h hk) hn
  · exact hk.elim
end
end Go.Proofs.YtjebfbkigkjboaaGreatDoor.Sy

/- The calculus, seventeenth part: regions in their order, the code's forms, states told with less. -/
namespace Go.Proofs.YtjebfbkigkjboaaGreatDoor.Sy
open Go.RowKit Kit

section
variable {P : Program} {w0 : Base} {w : World} {M0 M : Snap} {β : Plc} {σ : St} {a : Act}

/-- an operation, as the calculus reads it: the slot that guards it, the slot it fills, what it does -/
structure G where
  g : Option (Nat × Bool)
  s : Option Nat
  op : Op
def gOf (ops : Array Oper) (o : Oper) : Option G :=
  match o.guard with
  | none => some ⟨none, o.dst, o.op⟩
  | some (j, want) =>
    match (ops[j]?).bind (·.dst) with
    | some g => if g < GH then some ⟨some (g, want), o.dst, o.op⟩ else none
    | none => none
def gsOf (ops : Array Oper) : List Oper → Option (List G)
  | [] => some []
  | o :: l =>
    match gOf ops o, gsOf ops l with
    | some g, some r => some (g :: r)
    | _, _ => none

/-- an operation of a drawn region: the earlier ones that it is not ordered with, and what it names -/
structure GD where
  g : G
  un : List Nat
  rd : List Operand
/-- what comes before: an operation's own edges -/
def dirs (o : Oper) : List Nat := (o.after.toList.filter (Region.binds .any)).map (·.on)
/-- each once -/
def once : List Nat → List Nat → List Nat
  | [], acc => acc
  | x :: r, acc => bif isIn acc x then once r acc else once r (x :: acc)
def befs : List (List Nat) → List (List Nat) → List (List Nat)
  | acc, [] => acc
  | acc, d :: ds => befs (acc ++ [once (d ++ d.flatMap fun e => acc.getD e []) []]) ds
def unOf (bs : List (List Nat)) (j : Nat) : List Nat := (List.range j).filter fun i => !(bs.getD j []).contains i
def okD (ops : Array Oper) (ds bs : List (List Nat)) : Bool :=
  (List.range ops.size).all fun j =>
    (ds.getD j []).all (fun e => decide (e < j)) && (bs.getD j []).all (fun x => (ds.getD j []).contains x || (ds.getD j []).any fun e => (bs.getD e []).contains x) &&
      (unOf bs j).all fun i => match ops[i]?, ops[j]? with | some x, some y => Oper.apart ops x y | _, _ => false
def gdsOf (ops : Array Oper) : Option (List GD) :=
  match gsOf ops ops.toList with
  | none => none
  | some gs =>
    if okD ops (ops.toList.map dirs) (befs [] (ops.toList.map dirs)) then some (gs.zipIdx.map fun p => ⟨p.1, unOf (befs [] (ops.toList.map dirs)) p.2, p.1.op.operands.toList⟩) else none

end
/-- less is known: every state of which the calculus speaks alike -/
def Weaker (σ σ' : St) : Prop := ∀ (w0 : Base) (M0 M : Snap) (β : Plc) (tm : Array Value) (w : World), Rel w0 M0 M β σ tm w → ∃ M' β', Rel w0 M0 M' β' σ' tm w
theorem Weaker.refl (σ : St) : Weaker σ σ := fun _ _ M β _ _ h => ⟨M, β, h⟩
theorem Weaker.trans {σ σ' σ'' : St} (h : Weaker σ σ') (h' : Weaker σ' σ'') : Weaker σ σ'' := fun _ _ _ _ _ _ hr =>
  let ⟨_, _, h1⟩ := h _ _ _ _ _ _ hr
  h' _ _ _ _ _ _ h1
/-- own row i is told as what is only read -/
def CV.fz (i : Nat) (x : D) : CV → CV
  | .row j => if j = i then .d x else .row j
  | .np j off => if j = i then .any else .np j off
  | .rp j sz k c => if j = i then .any else .rp j sz k c
  | .rv j sz k n => if j = i then .any else .rv j sz k n
  | .mp j => if j = i then .any else .mp j
  | .cl j => if j = i then .any else .cl j
  | y => y
def EV.fz (i : Nat) (x : D) : EV → EV
  | .c y => .c (y.fz i x)
  | .agg l => .agg (l.map (CV.fz i x))
def SV.fz (i : Nat) (x : D) : SV → SV
  | .e y => .e (y.fz i x)
  | .tup l => .tup (l.map (EV.fz i x))
def Ob.fz (i : Nat) (x : D) : Ob → Ob
  | .cells T cs => .cells T (cs.map (CV.fz i x))
  | .vec T r cs => .vec T r (cs.map (CV.fz i x))
  | .fn f cs => .fn f (cs.map (CV.fz i x))
  | o => o
def St.fz (σ : St) (i : Nat) (x : D) : St := { σ with env := mapv (SV.fz i x) σ.env, objs := mapv (Ob.fz i x) (del σ.objs i) }

section
variable {M M' : Snap} {β β' : Plc} {i : Nat} {x : D} {u : Value} (hm : ∀ b o, M b = some o → M' b = some o) (hb : ∀ j p, j ≠ i → β j = some p → β' j = some p) (hi : β i = some (.inr u)) (hx : DR M' x u)
include hm hb hi hx
theorem CVR.fz {y : CV} {v : Value} (hr : CVR M β y v) : CVR M' β' (y.fz i x) v := by
  cases y with
  | row j =>
    simp only [CV.fz]
    split
    · rename_i e; subst e
      have := (show CVR M β (.row j) v from hr).1
      rw [hi] at this; cases this; exact hx
    · rename_i hne; exact ⟨hb _ _ hne hr.1, hr.2⟩
  | np j off =>
    simp only [CV.fz]
    split
    · trivial
    · rename_i hne; obtain ⟨b, e, hv⟩ := hr; exact ⟨b, hb _ _ hne e, hv⟩
  | rp j sz k c =>
    simp only [CV.fz]
    split
    · trivial
    · rename_i hne; obtain ⟨g, m, cap, e, hv⟩ := hr; exact ⟨g, m, cap, hb _ _ hne e, hv⟩
  | mp j =>
    simp only [CV.fz]
    split
    · trivial
    · rename_i hne; obtain ⟨b, e, hv⟩ := hr; exact ⟨b, hb _ _ hne e, hv⟩
  | cl j =>
    simp only [CV.fz]
    split
    · trivial
    · rename_i hne; exact ⟨hb _ _ hne hr.1, hr.2⟩
  | nilm => exact hr
  | kb b => exact hr
  | rv j sz k n =>
    simp only [CV.fz]
    split
    · trivial
    · rename_i hne; obtain ⟨g, m, cap, c, e, hv⟩ := hr; exact ⟨g, m, cap, c, hb _ _ hne e, hv⟩
  | any => trivial
  | und => exact hr
  | d z => exact DR.mono hm hr
  | nil => exact hr
  | nilp => exact hr
  | dp cs => obtain ⟨ad, us, e, hc, hcell⟩ := hr; exact ⟨ad, us, e, hc.mono hm, fun j u hu => Snap.cell_mono hm (hcell j u hu)⟩
theorem CVs.fz {l : List CV} {vs : List Value} (hr : CVs M β l vs) : CVs M' β' (l.map (CV.fz i x)) vs := by
  induction hr with
  | nil => exact .nil
  | cons h1 h2 _ ih => exact .cons (CVR.fz hm hb hi hx h1) h2 ih
theorem EVR.fz {y : EV} {v : Value} (hr : EVR M β y v) : EVR M' β' (y.fz i x) v := by
  cases y with
  | c y => exact CVR.fz hm hb hi hx hr
  | agg l => obtain ⟨vs, e, hc⟩ := hr; exact ⟨vs, e, CVs.fz hm hb hi hx hc⟩
theorem EVs.fz {l : List EV} {vs : List Value} (hr : EVs M β l vs) : EVs M' β' (l.map (EV.fz i x)) vs := by
  induction hr with
  | nil => exact .nil
  | cons h1 _ ih => exact .cons (EVR.fz hm hb hi hx h1) ih
theorem SVR.fz {y : SV} {v : Value} (hr : SVR M β y v) : SVR M' β' (y.fz i x) v := by
  cases y with
  | e y => exact EVR.fz hm hb hi hx hr
  | tup l => obtain ⟨vs, e, hc⟩ := hr; exact ⟨vs, e, EVs.fz hm hb hi hx hc⟩
theorem OR.fz {w : World} {o : Ob} {p : Nat ⊕ Value} (hr : OR M β w o p) : OR M' β' w (o.fz i x) p := by
  cases o <;> cases p <;> try exact hr.elim
  · obtain ⟨vs, e, hc⟩ := hr; exact ⟨vs, e, CVs.fz hm hb hi hx hc⟩
  · obtain ⟨xs, e, hc⟩ := hr; exact ⟨xs, e, hc.mono hm⟩
  · obtain ⟨es, c, e, hc⟩ := hr; exact ⟨es, c, e, hc.mono hm⟩
  · obtain ⟨xs, e, hc, hroom⟩ := hr; exact ⟨xs, by simpa using e, CVs.fz hm hb hi hx hc, hroom⟩
  · obtain ⟨cs, e, hc⟩ := hr; exact ⟨cs, e, CVs.fz hm hb hi hx hc⟩
end
theorem Weaker.freeze {σ : St} {i : Nat} {t : Ty} {T : TypeId} {l : List t.El} (hi : get σ.objs i = some (.row t T l)) : Weaker σ (σ.fz i (.sl t l)) := fun w0 M0 M β tm w h => by
  obtain ⟨M', v, hb, hx, hm, hr⟩ := h.still hi
  have hbb : ∀ j p, j ≠ i → β j = some p → (fun j => if j = i then none else β j) j = some p := fun j p hj hp => by simp [hj, hp]
  refine ⟨M', _, { hr with env := fun s y hy => ?_, objs := fun j o ho => ?_ }⟩
  · simp only [St.fz, get_mapv] at hy
    cases e : get σ.env s with
    | none => simp [e] at hy
    | some z =>
      simp [e] at hy; subst hy
      obtain ⟨u, hu, hz⟩ := h.env s z e
      exact ⟨u, hu, SVR.fz hm hbb hb hx hz⟩
  · simp only [St.fz, get_mapv, get_del] at ho
    by_cases e : i = j
    · simp [e] at ho
    · simp [e] at ho
      obtain ⟨y, hy, rfl⟩ := ho
      obtain ⟨p, hp, hz⟩ := h.objs j y hy
      exact ⟨p, hbb j p (fun x => e x.symm) hp, OR.fz hm hbb hb hx hz⟩

/-! ### cells that are laid still -/
section
variable {P : Program} {w0 : Base} {w : World} {M0 M : Snap} {β : Plc} {σ : St} {tm : Array Value}
theorem Rel.stillC (h : Rel w0 M0 M β σ tm w) {i : Nat} {T : TypeId} {cs : List CV} (hi : get σ.objs i = some (.cells T cs)) {ds : List D} (hd : toDs cs = some ds) :
    ∃ M' g us, β i = some (.inl g) ∧ Cells M' ds us ∧ (∀ (j : Nat) (u : Value), us[j]? = some u → M'.cell ⟨g, j, none⟩ = some u) ∧ (∀ b o, M b = some o → M' b = some o) ∧ Rel w0 M0 M' (fun j => if j = i then none else β j) (σ.kill i) tm w := by
  obtain ⟨p, hp, hr⟩ := h.objs i _ hi
  cases p with
  | inr v => exact hr.elim
  | inl g =>
    obtain ⟨vs, hg, hcs⟩ := hr
    have hk := h.kill i
    have hMg : M g = none := (h.apart i _ g hp rfl).1
    have hm : ∀ b o, M b = some o → (fun b => if b = g then some (Obj.cells vs T (0, 0)) else M b) b = some o := fun b o hbo => by
      have : b ≠ g := fun e => by subst e; rw [hMg] at hbo; cases hbo
      simp [this, hbo]
    refine ⟨fun b => if b = g then some (Obj.cells vs T (0, 0)) else M b, g, vs.toList, hp, (toDs_ok hcs hd).mono hm, fun j u hu => ?_, hm, ?_⟩
    · simp only [Snap.cell, if_true]
      simpa using hu
    · refine { hk with snap := ?_, mono := fun b o hb => hm b o (h.mono b o hb), newM := ?_, apart := ?_, env := ?_, objs := ?_ }
      · intro b o hb'
        by_cases e : b = g
        · subst e; simp at hb'; subst hb'; exact hg
        · simp [e] at hb'; exact h.snap b o hb'
      · intro b o hb'
        by_cases e : b = g
        · subst e; exact .inr (h.apart i _ _ hp rfl).2.1
        · simp [e] at hb'; exact h.newM b o hb'
      · intro j q b hj hq
        have h1 := hk.apart j q b hj hq
        have hji : j ≠ i := fun e => by simp [e] at hj
        have hne : b ≠ g := fun e => by
          subst e
          simp [hji] at hj
          exact hji (h.inj j i q _ b hj hp hq rfl)
        exact ⟨by simp [hne, h1.1], h1.2⟩
      · intro s x hs
        obtain ⟨u, hu, hr⟩ := hk.env s x hs
        exact ⟨u, hu, hr.weak hm (fun _ _ h => h)⟩
      · intro j o ho
        obtain ⟨q, hq, hr⟩ := hk.objs j o ho
        exact ⟨q, hq, hr.weak hm (fun _ _ h => h)⟩
end
def CV.fzC (i : Nat) (ds : List D) : CV → CV
  | .np j off => if j = i then .dp (ds.drop off) else .np j off
  | y => y.kill i
def EV.fzC (i : Nat) (x : List D) : EV → EV
  | .c y => .c (y.fzC i x)
  | .agg l => .agg (l.map (CV.fzC i x))
def SV.fzC (i : Nat) (x : List D) : SV → SV
  | .e y => .e (y.fzC i x)
  | .tup l => .tup (l.map (EV.fzC i x))
def Ob.fzC (i : Nat) (x : List D) : Ob → Ob
  | .cells T cs => .cells T (cs.map (CV.fzC i x))
  | .vec T r cs => .vec T r (cs.map (CV.fzC i x))
  | .fn f cs => .fn f (cs.map (CV.fzC i x))
  | o => o
def St.fzC (σ : St) (i : Nat) (x : List D) : St := { σ with env := mapv (SV.fzC i x) σ.env, objs := mapv (Ob.fzC i x) (del σ.objs i) }
section
variable {M M' : Snap} {β β' : Plc} {i g : Nat} {x : List D} {us : List Value} (hm : ∀ b o, M b = some o → M' b = some o) (hb : ∀ j p, j ≠ i → β j = some p → β' j = some p) (hi : β i = some (.inl g)) (hx : Cells M' x us) (hcell : ∀ (j : Nat) (u : Value), us[j]? = some u → M'.cell ⟨g, j, none⟩ = some u)
include hm hb hi hx hcell
theorem CVR.fzC {y : CV} {v : Value} (hr : CVR M β y v) : CVR M' β' (y.fzC i x) v := by
  cases y with
  | np j off =>
    simp only [CV.fzC]
    split
    · rename_i e; subst e
      obtain ⟨b, hb', rfl⟩ := hr
      rw [hi] at hb'; cases hb'
      refine ⟨_, us.drop off, rfl, hx.drop off, fun j u hu => ?_⟩
      have hadd : (⟨g, off, none⟩ : Addr).add j = ⟨g, off + j, none⟩ := by unfold Addr.add; split <;> simp_all
      rw [hadd]
      exact hcell _ _ (by simpa using hu)
    · rename_i hne; obtain ⟨b, e, hv⟩ := hr; exact ⟨b, hb _ _ hne e, hv⟩
  | row j =>
    simp only [CV.fzC, CV.kill]
    split
    · trivial
    · rename_i hne; exact ⟨hb _ _ hne hr.1, hr.2⟩
  | rp j sz k c =>
    simp only [CV.fzC, CV.kill]
    split
    · trivial
    · rename_i hne; obtain ⟨g, m, cap, e, hv⟩ := hr; exact ⟨g, m, cap, hb _ _ hne e, hv⟩
  | mp j =>
    simp only [CV.fzC, CV.kill]
    split
    · trivial
    · rename_i hne; obtain ⟨b, e, hv⟩ := hr; exact ⟨b, hb _ _ hne e, hv⟩
  | cl j =>
    simp only [CV.fzC, CV.kill]
    split
    · trivial
    · rename_i hne; exact ⟨hb _ _ hne hr.1, hr.2⟩
  | rv j sz k n =>
    simp only [CV.fzC, CV.kill]
    split
    · trivial
    · rename_i hne; obtain ⟨g, m, cap, c, e, hv⟩ := hr; exact ⟨g, m, cap, c, hb _ _ hne e, hv⟩
  | nilm => exact hr
  | kb b => exact hr
  | any => trivial
  | und => exact hr
  | d z => exact DR.mono hm hr
  | nil => exact hr
  | nilp => exact hr
  | dp cs => obtain ⟨ad, us, e, hc, hcell⟩ := hr; exact ⟨ad, us, e, hc.mono hm, fun j u hu => Snap.cell_mono hm (hcell j u hu)⟩
theorem CVs.fzC {l : List CV} {vs : List Value} (hr : CVs M β l vs) : CVs M' β' (l.map (CV.fzC i x)) vs := by
  induction hr with
  | nil => exact .nil
  | cons h1 h2 _ ih => exact .cons (CVR.fzC hm hb hi hx hcell h1) h2 ih
theorem EVR.fzC {y : EV} {v : Value} (hr : EVR M β y v) : EVR M' β' (y.fzC i x) v := by
  cases y with
  | c y => exact CVR.fzC hm hb hi hx hcell hr
  | agg l => obtain ⟨vs, e, hc⟩ := hr; exact ⟨vs, e, CVs.fzC hm hb hi hx hcell hc⟩
theorem EVs.fzC {l : List EV} {vs : List Value} (hr : EVs M β l vs) : EVs M' β' (l.map (EV.fzC i x)) vs := by
  induction hr with
  | nil => exact .nil
  | cons h1 _ ih => exact .cons (EVR.fzC hm hb hi hx hcell h1) ih
theorem SVR.fzC {y : SV} {v : Value} (hr : SVR M β y v) : SVR M' β' (y.fzC i x) v := by
  cases y with
  | e y => exact EVR.fzC hm hb hi hx hcell hr
  | tup l => obtain ⟨vs, e, hc⟩ := hr; exact ⟨vs, e, EVs.fzC hm hb hi hx hcell hc⟩
theorem OR.fzC {w : World} {o : Ob} {p : Nat ⊕ Value} (hr : OR M β w o p) : OR M' β' w (o.fzC i x) p := by
  cases o <;> cases p <;> try exact hr.elim
  · obtain ⟨vs, e, hc⟩ := hr; exact ⟨vs, e, CVs.fzC hm hb hi hx hcell hc⟩
  · obtain ⟨xs, e, hc⟩ := hr; exact ⟨xs, e, hc.mono hm⟩
  · obtain ⟨es, c, e, hc⟩ := hr; exact ⟨es, c, e, hc.mono hm⟩
  · obtain ⟨xs, e, hc, hroom⟩ := hr; exact ⟨xs, by simpa using e, CVs.fzC hm hb hi hx hcell hc, hroom⟩
  · obtain ⟨cs, e, hc⟩ := hr; exact ⟨cs, e, CVs.fzC hm hb hi hx hcell hc⟩
end
theorem Weaker.freezeC {σ : St} {i : Nat} {T : TypeId} {cs : List CV} (hi : get σ.objs i = some (.cells T cs)) {ds : List D} (hd : toDs cs = some ds) : Weaker σ (σ.fzC i ds) := fun w0 M0 M β tm w h => by
  obtain ⟨M', g, us, hb, hx, hcell, hm, hr⟩ := h.stillC hi hd
  have hbb : ∀ j p, j ≠ i → β j = some p → (fun j => if j = i then none else β j) j = some p := fun j p hj hp => by simp [hj, hp]
  refine ⟨M', _, { hr with env := fun s y hy => ?_, objs := fun j o ho => ?_ }⟩
  · simp only [St.fzC, get_mapv] at hy
    cases e : get σ.env s with
    | none => simp [e] at hy
    | some z =>
      simp [e] at hy; subst hy
      obtain ⟨u, hu, hz⟩ := h.env s z e
      exact ⟨u, hu, SVR.fzC hm hbb hb hx hcell hz⟩
  · simp only [St.fzC, get_mapv, get_del] at ho
    by_cases e : i = j
    · simp [e] at ho
    · simp [e] at ho
      obtain ⟨y, hy, rfl⟩ := ho
      obtain ⟨p, hp, hz⟩ := h.objs j y hy
      exact ⟨p, hbb j p (fun x => e x.symm) hp, OR.fzC hm hbb hb hx hcell hz⟩
/-- cells that are laid still: where they are data -/
def FC : Nat := 2000000
def frzCs (mu : List Nat) : List (Nat × Ob) → St → St
  | [], σ => σ
  | (i, _) :: r, σ =>
    bif isIn mu (FC + i) then
      match get σ.objs i with
      | some (.cells _ cs) => match toDs cs with | some ds => frzCs mu r (σ.fzC i ds) | none => frzCs mu r σ
      | _ => frzCs mu r σ
    else frzCs mu r σ
theorem Weaker.frzCs (mu : List Nat) : ∀ (l : List (Nat × Ob)) (σ : St), Weaker σ (frzCs mu l σ)
  | [], σ => Weaker.refl σ
  | (i, _) :: r, σ => by
    simp only [Sy.frzCs]
    cases isIn mu (FC + i) with
    | false => exact Weaker.frzCs mu r σ
    | true =>
      simp only [cond_true]
      split
      · rename_i hi
        split
        · rename_i hd; exact (Weaker.freezeC hi hd).trans (Weaker.frzCs mu r _)
        · exact Weaker.frzCs mu r σ
      · exact Weaker.frzCs mu r σ

/-- rows that are laid still -/
def frzIds : List Nat → St → St
  | [], σ => σ
  | i :: r, σ =>
    match get σ.objs i with
    | some (.row t _ l) => frzIds r (σ.fz i (.sl t l))
    | _ => frzIds r σ
theorem Weaker.frz : ∀ (l : List Nat) (σ : St), Weaker σ (frzIds l σ)
  | [], σ => Weaker.refl σ
  | i :: r, σ => by
    simp only [frzIds]
    split
    · rename_i h; exact (Weaker.freeze h).trans (Weaker.frz r _)
    · exact Weaker.frz r σ
/-- what an operation puts into rows and maps: it must be data -/
def FZ : Nat := 1000000
def frzOp (C : Cx) (σ : St) : Op → List Nat
  | .call ⟨.value (.func f), args, _⟩ => bif isIn C.mu (FZ + f) then args.toList.flatMap fun x => (ev σ x).ids else []
  | .buildSlice _ _ ps => ps.toList.flatMap fun p => (ev σ p.2).ids
  | .mapUpdate _ _ _ x => (ev σ x).ids
  | .store _ x y => match ev σ x with | .e (.c (.rp _ _ _ _)) => (ev σ y).ids | _ => []
  | _ => []
section
variable {P : Program} {w0 : Base} {w : World} {M0 M : Snap} {β : Plc} {σ : St} {a : Act}
def upd (σ : St) (d : Option Nat) (x : SV) : Tr St :=
  match d with
  | none => .ret σ
  | some s => if s < σ.n then .ret (σ.set s x) else .fail
def stepTo0 (C : Cx) (σ : St) (s : Option Nat) (op : Op) : Tr St := (stepOp C σ (s.getD 0) op).bind fun r => upd (σ.app r.2) s r.1
def stepTo (C : Cx) (σ : St) (s : Option Nat) (op : Op) : Tr St := stepTo0 C (frzIds (frzOp C σ op) σ) s op
def gate (C : Cx) (σ : St) (s : Option Nat) (op : Op) (g : Nat) (want t : Bool) : Tr St :=
  if t = want then stepTo C (σ.set g (.e (.c (.kb t)))) s op else upd (σ.set g (.e (.c (.kb t)))) s (.e (.c .und))
def runG (C : Cx) (σ : St) : G → Tr St
  | ⟨none, s, op⟩ => stepTo C σ s op
  | ⟨some (g, want), s, op⟩ =>
    match get σ.env g with
    | some (.e (.c .und)) => upd σ s (.e (.c .und))
    | some (.e (.c (.kb b))) => if b = want then stepTo C σ s op else upd σ s (.e (.c .und))
    | some (.e (.c (.d (.v (.bool b))))) => .ite b (gate C σ s op g want true) (gate C σ s op g want false)
    | _ => .fail
def runGs (C : Cx) : List G → St → Tr St
  | [], σ => .ret σ
  | o :: rest, σ => (runG C σ o).bind (runGs C rest)

/-- a slot told in other words -/
theorem Rel.know {tm : Array Value} (h : Rel w0 M0 M β σ tm w) {s : Nat} {v : Value} (hv : look tm w0.gh s = some v) {x : SV} (hx : SVR M β x v) : Rel w0 M0 M β (σ.set s x) tm w := by
  refine { h with env := fun t y hy => ?_ }
  simp only [St.set, get_put] at hy
  split at hy
  · rename_i e; subst e; cases hy; exact ⟨v, hv, hx⟩
  · exact h.env t y hy
theorem upd_ok (h : Rel w0 M0 M β σ a.tmps w) {d : Option Nat} {x : SV} {v : Value} (hx : SVR M β x v) {N : St → Prop} (hk : (upd σ d x).sat N) : ∃ σ', N σ' ∧ Rel w0 M0 M β σ' (a.put d v).tmps w ∧ (a.put d v).defers = a.defers := by
  unfold upd at hk
  cases d with
  | none => exact ⟨σ, hk, h, rfl⟩
  | some s =>
    simp only at hk
    split at hk
    · rename_i hs; exact ⟨_, hk, h.set hs hx, rfl⟩
    · exact hk.elim

/-- what is carried from operation to operation -/
def Carry (w0 : Base) (M0 : Snap) (N : St → Prop) (a : Act) (w : World) : Prop := a.defers = [] ∧ ∃ σ M β, N σ ∧ Rel w0 M0 M β σ a.tmps w

theorem stepTo0_ok {C : Cx} (hC : CxOk P C) (h : Rel w0 M0 M β σ a.tmps w) (hd : a.defers = []) {o : Oper} {N : St → Prop} (hk : (stepTo0 C σ o.dst o.op).sat N) {next : Act → World → Prop} {Q : Exit → Act → World → Prop}
    (hn : ∀ a' w', Carry w0 M0 N a' w' → next a' w') : o.wp P a w next Q := by
  refine stepOp_ok hC h (Tr.sat_bind hk) fun x ch v w' M' β' hx hr hv => ?_
  obtain ⟨σ', hN, hr', he⟩ := upd_ok hr hv hx
  exact hn _ _ ⟨he.trans hd, σ', M', β', hN, hr'⟩
theorem stepTo_ok {C : Cx} (hC : CxOk P C) (h : Rel w0 M0 M β σ a.tmps w) (hd : a.defers = []) {o : Oper} {N : St → Prop} (hk : (stepTo C σ o.dst o.op).sat N) {next : Act → World → Prop} {Q : Exit → Act → World → Prop}
    (hn : ∀ a' w', Carry w0 M0 N a' w' → next a' w') : o.wp P a w next Q := by
  obtain ⟨M', β', h'⟩ := Weaker.frz (frzOp C σ o.op) σ _ _ _ _ _ _ h
  exact stepTo0_ok hC h' hd hk hn
theorem skipTo_ok (h : Rel w0 M0 M β σ a.tmps w) (hd : a.defers = []) {o : Oper} {N : St → Prop} (hk : (upd σ o.dst (.e (.c .und))).sat N) {next : Act → World → Prop} (hn : ∀ a' w', Carry w0 M0 N a' w' → next a' w') : next (a.put o.dst undef) w := by
  obtain ⟨σ', hN, hr', he⟩ := upd_ok h (x := .e (.c .und)) (v := undef) rfl hk
  exact hn _ _ ⟨he.trans hd, σ', M, β, hN, hr'⟩

theorem runG_ok {C : Cx} (hC : CxOk P C) {ops : Array Oper} (h : Rel w0 M0 M β σ a.tmps w) (hd : a.defers = []) {o : Oper} {g : G} (hg : gOf ops o = some g) {N : St → Prop} (hk : (runG C σ g).sat N) {next : Act → World → Prop} {Q : Exit → Act → World → Prop}
    (hn : ∀ a' w', Carry w0 M0 N a' w' → next a' w') : if Region.wanted o (yielded ops a.tmps) then o.wp P a w next Q else next (a.put o.dst undef) w := by
  unfold gOf at hg
  split at hg
  · rename_i hgd
    cases hg
    rw [if_pos (by simp [Region.wanted, hgd])]
    exact stepTo_ok hC h hd hk hn
  · rename_i j want hgd
    split at hg
    · rename_i g hj
      split at hg <;> cases hg
      rename_i hlt
      have hy : ∀ v, look a.tmps w0.gh g = some v → yielded ops a.tmps j = match v with | .bool b => some b | _ => none := fun v hv => by
        unfold look at hv
        rw [if_pos hlt] at hv
        unfold yielded; rw [hj]
        show (match a.tmps[g]? with | some (.bool b) => some b | _ => none) = _
        rw [hv]
        cases v <;> rfl
      simp only [runG] at hk
      split at hk
      · rename_i he
        obtain ⟨v, hv, hr⟩ := h.env g _ he
        have hv' : v = undef := hr
        subst hv'
        rw [if_neg (by simp [Region.wanted, hgd, hy _ hv, undef])]
        exact skipTo_ok h hd hk hn
      · rename_i b he
        obtain ⟨v, hv, hr⟩ := h.env g _ he
        have hv' : v = .bool b := hr
        subst hv'
        have hw : Region.wanted o (yielded ops a.tmps) = (some b == some want) := by simp [Region.wanted, hgd, hy _ hv]
        split at hk
        · rename_i e; rw [if_pos (by rw [hw, e]; simp)]; exact stepTo_ok hC h hd hk hn
        · rename_i e; rw [if_neg (by rw [hw]; simpa using e)]; exact skipTo_ok h hd hk hn
      · rename_i b he
        obtain ⟨v, hv, hr⟩ := h.env g _ he
        have hv' : v = .bool b := by cases (show DR M (.v (.bool b)) v from hr); rfl
        subst hv'
        have hw : Region.wanted o (yielded ops a.tmps) = (some b == some want) := by simp [Region.wanted, hgd, hy _ hv]
        have key : ∀ t, b = t → (gate C σ o.dst o.op g want t).sat N → if Region.wanted o (yielded ops a.tmps) = true then o.wp P a w next Q else next (a.put o.dst undef) w := fun t ht hg' => by
          have h' := h.know hv (x := .e (.c (.kb t))) (by rw [← ht]; rfl)
          unfold gate at hg'
          split at hg'
          · rename_i e; rw [if_pos (by rw [hw, ht, e]; simp)]; exact stepTo_ok hC h' hd hg' hn
          · rename_i e; rw [if_neg (by rw [hw, ht]; simpa using e)]; exact skipTo_ok h' hd hg' hn
        cases b with
        | true => exact key true rfl (hk.1 rfl)
        | false => exact key false rfl (hk.2 rfl)
      · exact hk.elim
    · cases hg

theorem runGs_ok {C : Cx} (hC : CxOk P C) {ops : Array Oper} {N : St → Prop} {Q : Exit → Act → World → Prop} (hQ : ∀ a w, Carry w0 M0 N a w → Q .normal a w) :
    ∀ (l : List Oper) {gs : List G} {σ : St} {M : Snap} {β : Plc} {a : Act} {w : World}, gsOf ops l = some gs → Rel w0 M0 M β σ a.tmps w → a.defers = [] → (runGs C gs σ).sat N → wpList P ops Q l a w := by
  intro l
  induction l with
  | nil => intro gs σ M β a w hg h hd hk; cases hg; exact hQ _ _ ⟨hd, σ, M, β, hk, h⟩
  | cons o rest ih =>
    intro gs σ M β a w hg h hd hk
    simp only [gsOf] at hg
    split at hg
    · rename_i g r hg1 hg2
      cases hg
      refine wpList_step fun K hK => ?_
      exact runG_ok hC h hd hg1 (Tr.sat_bind hk) fun a' w' ⟨hd', σ', M', β', hN, hr⟩ => hK _ _ (ih hg2 hr hd' hN)
    · cases hg

/-! ### the code's forms -/
inductive GC where
  | skip
  | region (ops : List G)
  | draw (ops : List GD)
  | seq (a b : GC)
  | cond (c : Operand) (a b : GC)
  | block (id : Nat) (a : GC)
  | loop (a : GC)
  | exit (id : Nat)
  | ret
def comp : Code → Option GC
  | .skip => some .skip
  | .region _ ops false => (gsOf ops ops.toList).map .region
  | .region _ ops true => (gdsOf ops).map .draw
  | .seq a b =>
    match comp a, comp b with
    | some x, some y => some (.seq x y)
    | _, _ => none
  | .cond c a b =>
    match comp a, comp b with
    | some x, some y => some (.cond c x y)
    | _, _ => none
  | .block id a => (comp a).map (.block id)
  | .loop a => (comp a).map .loop
  | .exit id => some (.exit id)
  | .ret => some .ret
  | _ => none

def Qa (w0 : Base) (M0 : Snap) (N : St → Prop) (E : Nat → St → Prop) (R : St → Prop) : Exit → Act → World → Prop
  | .normal, a, w => Carry w0 M0 N a w
  | .exit i, a, w => Carry w0 M0 (E i) a w
  | .ret, a, w => Carry w0 M0 R a w
  | _, _, _ => False
def Sy (P : Program) (w0 : Base) (M0 : Snap) (g : GC) (N : St → Prop) (E : Nat → St → Prop) (R : St → Prop) (σ : St) : Prop :=
  ∀ (c : Code), comp c = some g → ∀ (M : Snap) (β : Plc) (a : Act) (w : World), a.defers = [] → Rel w0 M0 M β σ a.tmps w → c.wp P (Qa w0 M0 N E R) a w

variable {N : St → Prop} {E : Nat → St → Prop} {R : St → Prop}
theorem Sy.region {C : Cx} (hC : CxOk P C) {ops : List G} (h : (runGs C ops σ).sat N) : Sy P w0 M0 (.region ops) N E R σ := fun c hc M β a w hd hr => by
  cases c <;> (try simp only [comp] at hc) <;> (try (cases hc; done))
  case region id os d =>
    cases d
    · simp only [comp] at hc
      cases e : gsOf os os.toList with
      | none => simp [e] at hc
      | some gs =>
        simp [e] at hc; subst hc
        exact wp_region_list (runGs_ok hC (fun _ _ h => h) _ e hr hd h)
    · simp only [comp, Option.map_eq_some_iff] at hc; obtain ⟨_, _, h⟩ := hc; cases h
  case seq a b => split at hc <;> cases hc
  case cond a b => split at hc <;> cases hc
  all_goals (simp only [Option.map_eq_some_iff] at hc; obtain ⟨_, _, h⟩ := hc; cases h)
theorem comp_draw {c : Code} {l : List GD} (hc : comp c = some (.draw l)) : ∃ id ops, c = .region id ops true ∧ gdsOf ops = some l := by
  cases c <;> (try simp only [comp] at hc) <;> (try (cases hc; done))
  case region id os d =>
    cases d
    · simp only [comp, Option.map_eq_some_iff] at hc; obtain ⟨_, _, h⟩ := hc; cases h
    · simp only [comp, Option.map_eq_some_iff] at hc; obtain ⟨_, e, h⟩ := hc; cases h; exact ⟨_, _, rfl, e⟩
  case seq a b => split at hc <;> cases hc
  case cond a b => split at hc <;> cases hc
  all_goals (simp only [Option.map_eq_some_iff] at hc; obtain ⟨_, _, h⟩ := hc; cases h)
theorem comp_seq {c : Code} {g h : GC} (hc : comp c = some (.seq g h)) : ∃ x y, c = .seq x y ∧ comp x = some g ∧ comp y = some h := by
  cases c <;> (try simp only [comp] at hc) <;> (try (cases hc; done))
  case region id os d => cases d <;> simp only [comp, Option.map_eq_some_iff] at hc <;> first | (cases hc; done) | (obtain ⟨_, _, h⟩ := hc; cases h)
  case seq a b =>
    split at hc
    · rename_i e1 e2; cases hc; exact ⟨_, _, rfl, e1, e2⟩
    · cases hc
  case cond a b => split at hc <;> cases hc
  all_goals (simp only [Option.map_eq_some_iff] at hc; obtain ⟨_, _, h⟩ := hc; cases h)
theorem comp_cond {c : Code} {o : Operand} {g h : GC} (hc : comp c = some (.cond o g h)) : ∃ x y, c = .cond o x y ∧ comp x = some g ∧ comp y = some h := by
  cases c <;> (try simp only [comp] at hc) <;> (try (cases hc; done))
  case region id os d => cases d <;> simp only [comp, Option.map_eq_some_iff] at hc <;> first | (cases hc; done) | (obtain ⟨_, _, h⟩ := hc; cases h)
  case seq a b => split at hc <;> cases hc
  case cond a b =>
    split at hc
    · rename_i e1 e2; cases hc; exact ⟨_, _, rfl, e1, e2⟩
    · cases hc
  all_goals (simp only [Option.map_eq_some_iff] at hc; obtain ⟨_, _, h⟩ := hc; cases h)
theorem comp_block {c : Code} {id : Nat} {g : GC} (hc : comp c = some (.block id g)) : ∃ x, c = .block id x ∧ comp x = some g := by
  cases c <;> (try simp only [comp] at hc) <;> (try (cases hc; done))
  case region id os d => cases d <;> simp only [comp, Option.map_eq_some_iff] at hc <;> first | (cases hc; done) | (obtain ⟨_, _, h⟩ := hc; cases h)
  case seq a b => split at hc <;> cases hc
  case cond a b => split at hc <;> cases hc
  case block id a => simp only [Option.map_eq_some_iff] at hc; obtain ⟨x, e, h⟩ := hc; cases h; exact ⟨_, rfl, e⟩
  all_goals (simp only [Option.map_eq_some_iff] at hc; obtain ⟨_, _, h⟩ := hc; cases h)
theorem comp_loop {c : Code} {g : GC} (hc : comp c = some (.loop g)) : ∃ x, c = .loop x ∧ comp x = some g := by
  cases c <;> (try simp only [comp] at hc) <;> (try (cases hc; done))
  case region id os d => cases d <;> simp only [comp, Option.map_eq_some_iff] at hc <;> first | (cases hc; done) | (obtain ⟨_, _, h⟩ := hc; cases h)
  case seq a b => split at hc <;> cases hc
  case cond a b => split at hc <;> cases hc
  case loop a => simp only [Option.map_eq_some_iff] at hc; obtain ⟨x, e, h⟩ := hc; cases h; exact ⟨_, rfl, e⟩
  all_goals (simp only [Option.map_eq_some_iff] at hc; obtain ⟨_, _, h⟩ := hc; cases h)
theorem comp_leaf {c : Code} {g : GC} (hc : comp c = some g) : (g = .skip → c = .skip) ∧ (g = .ret → c = .ret) ∧ (∀ i, g = .exit i → c = .exit i) := by
  cases c <;> (try simp only [comp] at hc) <;> (try (cases hc; done))
  case region id os d => cases d <;> simp only [comp, Option.map_eq_some_iff] at hc <;> first | (cases hc; done) | (obtain ⟨_, _, h⟩ := hc; subst h; simp)
  case seq a b => split at hc <;> cases hc; simp
  case cond a b => split at hc <;> cases hc; simp
  case skip => cases hc; simp
  case ret => cases hc; simp
  case exit i => cases hc; simp
  all_goals (simp only [Option.map_eq_some_iff] at hc; obtain ⟨_, _, h⟩ := hc; subst h; simp)

theorem Sy.seq {g h : GC} (hs : Sy P w0 M0 g (fun σ' => Sy P w0 M0 h N E R σ') E R σ) : Sy P w0 M0 (.seq g h) N E R σ := fun c hc M β a w hd hr => by
  obtain ⟨x, y, rfl, hx, hy⟩ := comp_seq hc
  refine wp_seq (wp_mono (hs x hx M β a w hd hr) fun e a' w' hq => ?_)
  cases e with
  | normal => obtain ⟨hd', σ', M', β', hs, hr'⟩ := hq; exact hs y hy M' β' a' w' hd' hr'
  | _ => exact hq
theorem Sy.skip (h : N σ) : Sy P w0 M0 .skip N E R σ := fun c hc M β _ _ hd hr => by rw [(comp_leaf hc).1 rfl]; exact wp_skip ⟨hd, σ, M, β, h, hr⟩
theorem Sy.ret (h : R σ) : Sy P w0 M0 .ret N E R σ := fun c hc M β _ _ hd hr => by rw [(comp_leaf hc).2.1 rfl]; exact wp_ret ⟨hd, σ, M, β, h, hr⟩
theorem Sy.exit {id : Nat} (h : E id σ) : Sy P w0 M0 (.exit id) N E R σ := fun c hc M β _ _ hd hr => by rw [(comp_leaf hc).2.2 id rfl]; exact wp_exit ⟨hd, σ, M, β, h, hr⟩
theorem Sy.block {id : Nat} {g : GC} (h : Sy P w0 M0 g N (fun i σ' => if i = id then N σ' else E i σ') R σ) : Sy P w0 M0 (.block id g) N E R σ := fun c hc M β a w hd hr => by
  obtain ⟨x, rfl, hx⟩ := comp_block hc
  refine wp_block (wp_mono (h x hx M β a w hd hr) fun e a' w' hq => ?_)
  cases e with
  | exit i =>
    simp only [Exit.inBlock]
    obtain ⟨hd', σ', M', β', hs, hr'⟩ := hq
    split
    · rename_i e; rw [if_pos e] at hs; exact ⟨hd', σ', M', β', hs, hr'⟩
    · rename_i e; rw [if_neg e] at hs; exact ⟨hd', σ', M', β', hs, hr'⟩
  | _ => exact hq
theorem Sy.cond {c : Operand} {x y : GC} {b : Bool} (hb : (ev σ c).val = some (.bool b)) (ht : b = true → Sy P w0 M0 x N E R σ) (hf : b = false → Sy P w0 M0 y N E R σ) : Sy P w0 M0 (.cond c x y) N E R σ := fun d hc M β a w hd hr => by
  obtain ⟨u, v, rfl, hu, hv'⟩ := comp_cond hc
  obtain ⟨hv, _⟩ := (ev_ok hr c).val hb
  exact wp_cond_split hv (fun e => ht e u hu M β a w hd hr) (fun e => hf e v hv' M β a w hd hr)
theorem Sy.mono {g : GC} {N' : St → Prop} {E' : Nat → St → Prop} {R' : St → Prop} (h : Sy P w0 M0 g N E R σ) (hN : ∀ σ, N σ → N' σ) (hE : ∀ i σ, E i σ → E' i σ) (hR : ∀ σ, R σ → R' σ) : Sy P w0 M0 g N' E' R' σ := fun c hc M β a w hd hr => by
  refine wp_mono (h c hc M β a w hd hr) fun e a' w' hq => ?_
  cases e with
  | normal => obtain ⟨hd', σ', M', β', hs, hr'⟩ := hq; exact ⟨hd', σ', M', β', hN _ hs, hr'⟩
  | exit i => obtain ⟨hd', σ', M', β', hs, hr'⟩ := hq; exact ⟨hd', σ', M', β', hE _ _ hs, hr'⟩
  | ret => obtain ⟨hd', σ', M', β', hs, hr'⟩ := hq; exact ⟨hd', σ', M', β', hR _ hs, hr'⟩
  | _ => exact hq
theorem Sy.weaker {g : GC} {σ' : St} (hw : Weaker σ σ') (h : Sy P w0 M0 g N E R σ') : Sy P w0 M0 g N E R σ := fun c hc M β a w hd hr => by
  obtain ⟨M', β', hr'⟩ := hw _ _ _ _ _ _ hr
  exact h c hc M' β' a w hd hr'
/-- a loop: the states at its head, with a number that falls from round to round -/
theorem Sy.loop {g : GC} (I : Nat → St → Prop) {n : Nat} (h0 : I n σ) (hround : ∀ n σ, I n σ → Sy P w0 M0 g (fun σ' => ∃ m σ'', m < n ∧ Weaker σ' σ'' ∧ I m σ'') E R σ) : Sy P w0 M0 (.loop g) N E R σ := fun d hc M β a w hd hr => by
  obtain ⟨c, rfl, hx⟩ := comp_loop hc
  intro b k cs
  have key : ∀ n σ, I n σ → ∀ M β a w, a.defers = [] → Rel w0 M0 M β σ a.tmps w → ∃ e a' w', Qa w0 M0 N E R e a' w' ∧ Arrives P (lone (b.at a (.code c :: .inLoop c :: k)) cs w) b k cs e a' w' := by
    intro n
    induction n using Nat.strongRecOn with
    | _ n ih =>
      intro σ hI M β a w hd hr
      obtain ⟨e, a₁, w₁, hq, harr⟩ := hround n σ hI c hx M β a w hd hr b (.inLoop c :: k) cs
      cases e with
      | normal =>
        obtain ⟨hd', σ', M', β', ⟨m, σ'', hm, hw, hI'⟩, hr'⟩ := hq
        obtain ⟨M'', β'', hr''⟩ := hw _ _ _ _ _ _ hr'
        obtain ⟨e₂, a₂, w₂, hq₂, harr₂⟩ := ih m hm σ'' hI' M'' β'' a₁ w₁ hd' hr''
        exact ⟨e₂, a₂, w₂, hq₂, .of_steps (Steps.trans harr (.one step_inLoop)) harr₂⟩
      | exit id => exact ⟨.exit id, a₁, w₁, (show Qa w0 M0 N E R (.exit id) a₁ w₁ from hq), .pass (x := .inLoop c) rfl (fun _ _ => .inl (by simp)) harr⟩
      | goto l => exact hq.elim
      | ret => exact ⟨.ret, a₁, w₁, (show Qa w0 M0 N E R .ret a₁ w₁ from hq), .pass (x := .inLoop c) rfl (fun _ _ => .inl (by simp)) harr⟩
      | panic ch => exact hq.elim
      | outgrown => exact hq.elim
  obtain ⟨e, a', w', hq, harr⟩ := key n σ h0 M β a w hd hr
  exact ⟨e, a', w', hq, .of_steps (.one step_loop) harr⟩

end
end Go.Proofs.YtjebfbkigkjboaaGreatDoor.Sy

/- The calculus, eighteenth part: what an operation looks at: the slots that it names, and own blocks only where a slot tells of them. -/
namespace Go.Proofs.YtjebfbkigkjboaaGreatDoor.Sy
open Go.RowKit Kit

/-- nothing of own blocks, and nothing forgotten -/
def CV.solid : CV → Bool
  | .any | .np _ _ | .row _ | .rp _ _ _ _ | .rv _ _ _ _ | .mp _ | .cl _ => false
  | _ => true
def EV.solid : EV → Bool
  | .c x => x.solid
  | .agg l => l.all CV.solid
def SV.solid : SV → Bool
  | .e x => x.solid
  | .tup l => l.all EV.solid
theorem CV.solid_kill {x : CV} (h : x.solid = true) (i : Nat) : x.kill i = x := by cases x <;> first | rfl | (simp [CV.solid] at h)
theorem CV.kill_solid {x : CV} (h : x.solid = false) (i : Nat) : (x.kill i).solid = false := by
  cases x <;> simp only [CV.solid] at h <;> simp only [CV.kill] <;> first | (cases h; done) | rfl | (split <;> rfl)
theorem EV.solid_kill {x : EV} (h : x.solid = true) (i : Nat) : x.kill i = x := by
  cases x with
  | c x => simp only [EV.kill, CV.solid_kill (show x.solid = true from h)]
  | agg l =>
    simp only [EV.kill]
    congr 1
    simp only [EV.solid, List.all_eq_true] at h
    exact (List.map_congr_left fun a ha => CV.solid_kill (h a ha) i).trans (List.map_id' l)
theorem EV.kill_solid {x : EV} (h : x.solid = false) (i : Nat) : (x.kill i).solid = false := by
  cases x with
  | c x => exact CV.kill_solid (show x.solid = false from h) i
  | agg l =>
    simp only [EV.solid, List.all_eq_false] at h
    obtain ⟨a, ha, hs⟩ := h
    simp only [EV.kill, EV.solid, List.all_eq_false]
    exact ⟨a.kill i, List.mem_map_of_mem ha, by rw [CV.kill_solid (by simpa using hs)]; simp⟩
theorem SV.solid_kill {x : SV} (h : x.solid = true) (i : Nat) : x.kill i = x := by
  cases x with
  | e x => simp only [SV.kill, EV.solid_kill (show x.solid = true from h)]
  | tup l =>
    simp only [SV.kill]
    congr 1
    simp only [SV.solid, List.all_eq_true] at h
    exact (List.map_congr_left fun a ha => EV.solid_kill (h a ha) i).trans (List.map_id' l)
theorem SV.kill_solid {x : SV} (h : x.solid = false) (i : Nat) : (x.kill i).solid = false := by
  cases x with
  | e x => exact EV.kill_solid (show x.solid = false from h) i
  | tup l =>
    simp only [SV.solid, List.all_eq_false] at h
    obtain ⟨a, ha, hs⟩ := h
    simp only [SV.kill, SV.solid, List.all_eq_false]
    exact ⟨a.kill i, List.mem_map_of_mem ha, by rw [EV.kill_solid (by simpa using hs)]; simp⟩
def killL : List Nat → SV → SV
  | [], x => x
  | k :: ks, x => killL ks (x.kill k)
theorem killL_solid {x : SV} (h : x.solid = true) : ∀ ks, killL ks x = x
  | [] => rfl
  | k :: ks => by rw [killL, SV.solid_kill h, killL_solid h ks]
theorem killL_not {x : SV} (h : x.solid = false) : ∀ ks, (killL ks x).solid = false
  | [] => h
  | k :: ks => killL_not (SV.kill_solid h k) ks
theorem get_killEnv : ∀ (ks : List Nat) (env : List (Nat × SV)) (t : Nat), get (killEnv ks env) t = (get env t).map (killL ks)
  | [], env, t => by simp [killEnv]; cases get env t <;> rfl
  | k :: ks, env, t => by
    rw [killEnv, get_killEnv ks, get_mapv]
    cases get env t <;> rfl

section
variable {C : Cx} {σ σ' : St} {s : Nat}
theorem fillC_env {pl : Nat → Option (Nat × Nat)} : ∀ {parts : List (Nat × Operand)} {cs : List CV}, (∀ p ∈ parts, ev σ p.2 = ev σ' p.2) → fillC σ pl cs parts = fillC σ' pl cs parts := by
  intro parts
  induction parts with
  | nil => intro cs _; rfl
  | cons p rest ih =>
    obtain ⟨i, x⟩ := p
    intro cs h
    have h1 := h _ (List.mem_cons_self ..)
    have h2 : ∀ cs, fillC σ pl cs rest = fillC σ' pl cs rest := fun cs => ih fun q hq => h q (List.mem_cons_of_mem _ hq)
    simp only at h1
    simp only [fillC, h1, h2]
theorem bnd_env {d : Int} {o : Option Operand} (h : ∀ x ∈ o, ev σ x = ev σ' x) : bnd σ d o = bnd σ' d o := by
  cases o with
  | none => rfl
  | some x => simp only [bnd, h x rfl]
/-- the same slots, the same own blocks: the same -/
theorem takeBack_env {R : List Nat} {k : Nat} {x : SV} {τ : St} (ho : σ.objs = σ'.objs) : takeBack σ R k x τ = takeBack σ' R k x τ := by
  unfold takeBack; rw [ho]
theorem lend_env {R : List Nat} (ho : σ.objs = σ'.objs) : lend σ R = lend σ' R := by
  unfold lend; rw [ho]
theorem capsOf_env : ∀ {l : List Operand}, (∀ x ∈ l, ev σ x = ev σ' x) → capsOf σ l = capsOf σ' l
  | [], _ => rfl
  | x :: r, h => by
    simp only [capsOf]
    rw [h x (List.mem_cons_self ..), capsOf_env fun y hy => h y (List.mem_cons_of_mem _ hy)]
theorem stepOp_env {op : Op} (h : ∀ x ∈ op.operands.toList, ev σ x = ev σ' x) (ho : σ.objs = σ'.objs) : stepOp C σ s op = stepOp C σ' s op := by
  unfold stepOp
  split
  case h_6 t ps => 
    have := fun pl cs => fillC_env (pl := pl) (parts := ps.toList) (cs := cs) (σ := σ) (σ' := σ') fun p hp => h p.2 (by simp [Op.operands]; exact ⟨p.1, by simpa using hp⟩)
    simp only [doBuild, this]
  case h_7 t n ps => 
    have := fun pl cs => fillC_env (pl := pl) (parts := ps.toList) (cs := cs) (σ := σ) (σ' := σ') fun p hp => h p.2 (by simp [Op.operands]; exact ⟨p.1, by simpa using hp⟩)
    simp only [doBuildSlice, this, ho]
  case h_15 t r =>
    cases r with
    | none => simp only [doMakeMap, ho]
    | some x => simp only [doMakeMap, ho, h x (by simp [Op.operands])]
  case h_16 t x lo hi mx =>
    have h1 := h x (by simp [Op.operands])
    have h2 := fun d => bnd_env (σ := σ) (σ' := σ') (d := d) (o := lo) fun y hy => h y (by cases hy; simp [Op.operands])
    have h3 := fun d => bnd_env (σ := σ) (σ' := σ') (d := d) (o := hi) fun y hy => h y (by cases hy; simp [Op.operands])
    unfold doSlice
    cases get C.tbl t with
    | none => rfl
    | some l =>
    cases mx with
    | none => dsimp only; simp only [h1, h2, h3, ho]
    | some m =>
      have h4 : (hi.bind fun z => (ev σ z).int) = hi.bind fun z => (ev σ' z).int := by
        cases hi with
        | none => rfl
        | some y => show (ev σ y).int = (ev σ' y).int; rw [h y (by simp [Op.operands])]
      have h5 := h m (by simp [Op.operands])
      dsimp only; simp only [rowLen, h1, h2, h4, h5, ho]
  case h_24 f args ats =>
    have h1 : args.toList.map (ev σ) = args.toList.map (ev σ') := List.map_congr_left fun x hx => h x (by simp [Op.operands, Call.operands]; exact .inr (by simpa using hx))
    have h2 := fun R k x τ => takeBack_env (σ := σ) (σ' := σ') (R := R) (k := k) (x := x) (τ := τ) ho
    have h3 := fun R => lend_env (σ := σ) (σ' := σ') (R := R) ho
    simp only [doCall, doCallX, h1, ho, h2, h3]
  case h_30 g args ats =>
    have h1 : args.toList.map (ev σ) = args.toList.map (ev σ') := List.map_congr_left fun x hx => h x (by simp [Op.operands, Call.operands]; exact .inr (by simpa using hx))
    have h0 : ev σ (.tmp g) = ev σ' (.tmp g) := h _ (by simp [Op.operands, Call.operands])
    have h2 := fun R k x τ => takeBack_env (σ := σ) (σ' := σ') (R := R) (k := k) (x := x) (τ := τ) ho
    have h3 := fun R => lend_env (σ := σ) (σ' := σ') (R := R) ho
    simp only [doCallF, doCallX, h0, h1, ho, h2, h3]
  case h_31 f caps =>
    have := capsOf_env (σ := σ) (σ' := σ') (l := caps.toList) fun x hx => h x (by simp [Op.operands]; simpa using hx)
    simp only [doFunc, this, ho]
  all_goals simp only [Op.operands, Call.operands, Array.toList_append, List.cons_append, List.nil_append, List.mem_cons, List.not_mem_nil, or_false, forall_eq_or_imp, forall_eq, Array.mem_toList_iff] at h
  all_goals first
    | rfl
    | simp only [doCap, doClear, doAppendV, dstV, srcV, insideD, doPick, doAlloc, doBox, doLoad, doStore, doNil, doBinW, doBinG, doNilT, isNilS, doBin, doUn, doConv, doMake, doField, doFieldV, doIndex, doIndexAddr, doExtract, doLen, rowLen, mapLen, doAppends, doAppendZ, doAppend, doCopy, doMin, doLookup, doMapUpdate, srcOf, dstOf, viewOf, elems, inside, h, ho]
theorem CV.solid_closed {x : CV} (h : x.solid = true) : x.closed = true := by cases x <;> first | rfl | (simp [CV.solid] at h)
theorem EV.solid_closed {x : EV} (h : x.solid = true) : x.closed = true := by
  cases x with
  | c x => exact CV.solid_closed h
  | agg l => simp only [EV.solid, List.all_eq_true, EV.closed] at h ⊢; exact fun a ha => CV.solid_closed (h a ha)
theorem SV.solid_closed {x : SV} (h : x.solid = true) : x.closed = true := by
  cases x with
  | e x => exact EV.solid_closed h
  | tup l => simp only [SV.solid, List.all_eq_true, SV.closed] at h ⊢; exact fun a ha => EV.solid_closed (h a ha)
section
variable {tbl : Tbl} {t u : Nat} {x y : Operand}
theorem doLen_objs (h : ev σ x = ev σ' x) (hs : (ev σ x).solid = true) : doLen tbl σ t x = doLen tbl σ' t x := by
  unfold doLen
  rw [← h]
  generalize ev σ x = v at hs
  cases get tbl t with
  | none => rfl
  | some l =>
    dsimp only
    generalize l.desc = d
    rcases v with (c | l) | l
    · cases c with
      | d z => rcases z with q | ⟨sz, es⟩ <;> (try cases q) <;> cases d <;> rfl
      | _ => first | (simp [SV.solid, EV.solid, CV.solid] at hs; done) | (cases d <;> rfl)
    · cases d <;> rfl
    · cases d <;> rfl
theorem doLoad_objs (h : ev σ x = ev σ' x) (hs : (ev σ x).solid = true) : doLoad tbl σ t x = doLoad tbl σ' t x := by
  unfold doLoad
  rw [← h]
  generalize ev σ x = v at hs
  rcases v with (c | l) | l
  · cases c <;> first | rfl | (simp [SV.solid, EV.solid, CV.solid] at hs)
  · rfl
  · rfl
theorem doIndexAddr_objs (h : ev σ x = ev σ' x) (h' : ev σ y = ev σ' y) (hs : (ev σ x).solid = true) : doIndexAddr tbl σ t x y = doIndexAddr tbl σ' t x y := by
  unfold doIndexAddr
  rw [← h, ← h']
  generalize ev σ x = v at hs
  generalize (ev σ y).int = m
  cases get tbl t with
  | none => rfl
  | some l =>
    cases m with
    | none => rfl
    | some n =>
      dsimp only
      generalize l.desc = d
      cases d <;> try rfl
      · dsimp only
        rename_i e
        generalize get tbl e = g
        cases g with
        | none => rfl
        | some le =>
          rcases v with (c | l) | l
          · cases c with
            | d z => rcases z with q | ⟨sz, es⟩ <;> rfl
            | _ => first | (simp [SV.solid, EV.solid, CV.solid] at hs; done) | rfl
          · rfl
          · rfl
theorem elems_objs {v : SV} (hs : v.solid = true) : elems σ v = elems σ' v := by
  unfold elems
  rcases v with (c | l) | l
  · cases c with
    | d z => rcases z with q | ⟨sz, es⟩ <;> rfl
    | _ => first | (simp [SV.solid, EV.solid, CV.solid] at hs; done) | rfl
  · rfl
  · rfl
theorem inside_objs {v : SV} (hs : v.solid = true) : inside σ v = inside σ' v := by
  unfold inside
  rcases v with (c | l) | l
  · cases c <;> first | rfl | (simp [SV.solid, EV.solid, CV.solid] at hs)
  · rfl
  · rfl
theorem isNilS_objs {c : CV} (hs : c.solid = true) : isNilS σ c = isNilS σ' c := by
  cases c with
  | d z => rcases z with q | ⟨sz, es⟩ <;> rfl
  | _ => first | rfl | (simp [CV.solid] at hs)
theorem doConv_objs (h : ev σ x = ev σ' x) (hs : (ev σ x).solid = true) : doConv tbl σ t u x = doConv tbl σ' t u x := by
  unfold doConv
  rw [← h]
  generalize ev σ x = v at hs
  generalize get tbl t = g1
  generalize get tbl u = g2
  cases g1 with
  | none => rfl
  | some ls =>
    cases g2 with
    | none => rfl
    | some lt =>
      dsimp only
      generalize lt.desc = d
      generalize ls.desc = d'
      have e := elems_objs (σ := σ) (σ' := σ') hs
      have e' := inside_objs (σ := σ) (σ' := σ') hs
      rcases v with (c | l) | l
      · cases c with
        | d z => rcases z with q | ⟨sz, es⟩ <;> (try cases q) <;> cases d <;> cases d' <;> rfl
        | _ => first | (simp [SV.solid, EV.solid, CV.solid] at hs; done) | (cases d <;> cases d' <;> rfl)
      · cases d <;> cases d' <;> rfl
      · cases d <;> cases d' <;> rfl
theorem doBinG_objs {fl : List Nat} {op : BinOp} (h : ev σ x = ev σ' x) (h' : ev σ y = ev σ' y) (hs : (ev σ x).solid = true) : doBinG tbl fl σ op t x y = doBinG tbl fl σ' op t x y := by
  unfold doBinG doBin
  rw [← h, ← h']
  generalize ev σ x = v at hs
  generalize ev σ y = u
  rcases v with (c | l) | l
  · rcases u with (c' | l') | l'
    · simp only [doNilT, isNilS_objs (σ := σ) (σ' := σ') (show c.solid = true from hs)]
    · rfl
    · rfl
  · rcases u with (c' | l') | l' <;> rfl
  · rfl
theorem doBinW_objs {fl : List Nat} {op : BinOp} (h : ev σ x = ev σ' x) (h' : ev σ y = ev σ' y) (hs : (ev σ x).solid = true) : doBinW tbl fl σ op t x y = doBinW tbl fl σ' op t x y := by
  unfold doBinW
  rw [← h, ← h', doBinG_objs h h' hs]
theorem doLookup_objs {fl : List Nat} {ok : Bool} (h : ev σ x = ev σ' x) (hs : (ev σ x).solid = true) : doLookup tbl fl σ t x y ok = doLookup tbl fl σ' t x y ok := by
  unfold doLookup
  rw [← h]
  generalize ev σ x = v at hs
  cases get tbl t with
  | none => rfl
  | some l =>
    dsimp only
    generalize l.desc = d
    cases d <;> try rfl
    rename_i k e
    dsimp only
    generalize get tbl e = g
    cases g with
    | none => rfl
    | some le =>
      rcases v with (c | l) | l
      · cases c <;> first | rfl | (simp [SV.solid, EV.solid, CV.solid] at hs)
      · rfl
      · rfl
theorem doSlice_objs {lo hi : Option Operand} (h : ev σ x = ev σ' x) (h1 : ∀ z ∈ lo, ev σ z = ev σ' z) (h2 : ∀ z ∈ hi, ev σ z = ev σ' z) (hs : (ev σ x).solid = true) : doSlice tbl σ t x lo hi none = doSlice tbl σ' t x lo hi none := by
  have e1 := fun d => bnd_env (d := d) h1
  have e2 := fun d => bnd_env (d := d) h2
  unfold doSlice
  simp only [e1, e2, ← h]
  generalize ev σ x = v at hs
  cases get tbl t with
  | none => rfl
  | some l =>
    dsimp only
    generalize l.desc = d
    cases d <;> try rfl
    · dsimp only
      rename_i e
      generalize get tbl e = g
      cases g with
      | none => rfl
      | some le =>
        rcases v with (c | l) | l
        · cases c with
          | d z => rcases z with q | ⟨sz, es⟩ <;> rfl
          | _ => first | (simp [SV.solid, EV.solid, CV.solid] at hs; done) | rfl
        · rfl
        · rfl
end
theorem Tr.sat_absurd {α : Type} {K : α → Prop} {t : Tr α} (h : t.sat K) (hn : ∀ a, ¬ K a) : False := by
  induction t with
  | ret a => exact hn a h
  | fail => exact h
  | ite b t e ih1 ih2 => cases b
                         · exact ih2 (h.2 rfl)
                         · exact ih1 (h.1 rfl)
  | both t e ih1 ih2 => exact ih1 h.1
theorem sat_mono {α : Type} {N N' : α → Prop} {t : Tr α} (h : t.sat N) (hn : ∀ a, N a → N' a) : t.sat N' := by
  induction t with
  | ret a => exact hn a h
  | fail => exact h
  | ite b t e ih1 ih2 => exact ⟨fun e => ih1 (h.1 e), fun e => ih2 (h.2 e)⟩
  | both t e ih1 ih2 => exact ⟨ih1 h.1, ih2 h.2⟩
theorem Tr.bind_sat {α β : Type} {K : β → Prop} {f : α → Tr β} : ∀ {t : Tr α}, (t.sat fun a => (f a).sat K) → (t.bind f).sat K
  | .ret _, h => h
  | .fail, h => h
  | .ite _ _ _, h => ⟨fun e => Tr.bind_sat (h.1 e), fun e => Tr.bind_sat (h.2 e)⟩
  | .both _ _, h => ⟨Tr.bind_sat h.1, Tr.bind_sat h.2⟩
theorem CV.ids_closed {x : CV} (h : x.closed = true) : x.ids = [] := by cases x <;> first | rfl | (simp [CV.closed] at h)
theorem EV.ids_closed {x : EV} (h : x.closed = true) : x.ids = [] := by
  cases x with
  | c x => exact CV.ids_closed h
  | agg l =>
    simp only [EV.closed, List.all_eq_true] at h
    simp only [EV.ids, List.flatMap_eq_nil_iff]
    exact fun a ha => CV.ids_closed (h a ha)
theorem SV.ids_closed {x : SV} (h : x.closed = true) : x.ids = [] := by
  cases x with
  | e x => exact EV.ids_closed h
  | tup l =>
    simp only [SV.closed, List.all_eq_true] at h
    simp only [SV.ids, List.flatMap_eq_nil_iff]
    exact fun a ha => EV.ids_closed (h a ha)
theorem ids_closed {l : List SV} (h : l.all SV.closed = true) : l.flatMap SV.ids = [] := by
  simp only [List.all_eq_true] at h
  simp only [List.flatMap_eq_nil_iff]
  exact fun a ha => SV.ids_closed (h a ha)
/-- what an operation looks at tells of nothing that may change -/
def rdOk (σ : St) (op : Op) : Bool :=
  match op with
  | .call ⟨.value (.func _), args, _⟩ => args.toList.all fun x => (ev σ x).solid
  | .call ⟨.value (.tmp _), _, _⟩ => false
  | .call ⟨.builtin .clear, _, _⟩ => false
  | .makeFunc _ _ _ => false
  | .slice _ _ _ _ (some _) => false
  | op => op.operands.toList.all fun x => (ev σ x).solid
theorem rdOk_tmp {op : Op} (h : rdOk σ op = true) {t : Nat} (ht : .tmp t ∈ op.operands.toList) : (ev σ (.tmp t)).solid = true := by
  unfold rdOk at h
  split at h
  · rename_i f args ats
    refine List.all_eq_true.1 h _ ?_
    simpa [Op.operands, Call.operands] using ht
  · cases h
  · cases h
  · cases h
  · cases h
  · exact List.all_eq_true.1 h _ ht
/-- told by nothing of own blocks, and changing none: the same whatever the own blocks are -/
theorem stepOp_objs {op : Op} (h : ∀ x ∈ op.operands.toList, ev σ x = ev σ' x) (hs : rdOk σ op = true) {r : SV} (hk : (stepOp C σ s op).sat (· = (r, none))) : (stepOp C σ' s op).sat (· = (r, none)) := by
  unfold stepOp at hk ⊢
  split at hk
  case h_6 t ps => 
    have := fun pl cs => fillC_env (pl := pl) (parts := ps.toList) (cs := cs) (σ := σ) (σ' := σ') fun p hp => h p.2 (by simp [Op.operands]; exact ⟨p.1, by simpa using hp⟩)
    simp only [doBuild, this] at hk ⊢; exact hk
  case h_7 t n ps => 
    have := fun pl cs => fillC_env (pl := pl) (parts := ps.toList) (cs := cs) (σ := σ) (σ' := σ') fun p hp => h p.2 (by simp [Op.operands]; exact ⟨p.1, by simpa using hp⟩)
    simp only [doBuildSlice, this] at hk ⊢
    repeat' (split at hk <;> try exact hk.elim)
    · cases (show (_, newC _ _ _) = (r, none) from hk)
    · rename_i h1 h2 h3 _ _ _ _ hmu
      rw [if_pos ‹_ ∧ _ ∧ _›, if_neg hmu]
      exact hk
    · cases (show (_, newC _ _ _) = (r, none) from hk)
  case h_30 => simp [rdOk] at hs
  case h_31 => simp [rdOk] at hs
  case h_32 => simp [rdOk] at hs
  case h_16 t x lo hi mx =>
    cases mx with
    | some _ => simp [rdOk] at hs
    | none =>
    rw [← doSlice_objs (h x (by simp [Op.operands])) (fun y hy => h y (by cases hy; simp [Op.operands])) (fun y hy => h y (by cases hy; simp [Op.operands])) (by simp only [rdOk, List.all_eq_true] at hs; exact hs x (by simp [Op.operands]))]
    exact hk
  case h_15 t r' =>
    unfold doMakeMap at hk
    repeat' (split at hk <;> try exact hk.elim)
    cases (show (_, newC _ _ _) = (r, none) from hk)
  case h_24 f args ats =>
    have h1 : args.toList.map (ev σ) = args.toList.map (ev σ') := List.map_congr_left fun x hx => h x (by simp [Op.operands, Call.operands]; exact .inr (by simpa using hx))
    have h2 : (args.toList.map (ev σ)).all SV.closed = true := by
      simp only [List.all_map, List.all_eq_true, Function.comp]
      simp only [rdOk, List.all_eq_true] at hs
      exact fun x hx => SV.solid_closed (hs x hx)
    unfold doCall at hk ⊢
    unfold doCallX at hk ⊢
    rw [← h1]
    split at hk
    · rw [if_pos h2] at hk ⊢
      refine Tr.bind_sat (sat_mono (Tr.sat_bind hk) fun p hp => ?_)
      unfold takeBack at hp ⊢
      split at hp
      · rename_i e; rw [if_pos e]; exact hp
      · split at hp
        · cases (show (_, some _) = (r, none) from hp)
        · exact hp.elim
    · have hR : reach σ.objs 100 ((args.toList.map (ev σ)).flatMap SV.ids) [] = [] := by rw [ids_closed h2]; rfl
      have hR' : reach σ'.objs 100 ((args.toList.map (ev σ)).flatMap SV.ids) [] = [] := by rw [ids_closed h2]; rfl
      rw [hR] at hk; rw [hR']
      split at hk
      · refine Tr.bind_sat (sat_mono (Tr.sat_bind hk) fun p hp => ?_)
        unfold takeBack at hp ⊢
        split at hp
        · rename_i e; rw [if_pos e]; exact hp
        · split at hp
          · cases (show (_, some _) = (r, none) from hp)
          · exact hp.elim
      · exact hk.elim
  all_goals simp only [rdOk, List.all_eq_true, Op.operands, Call.operands, Array.toList_append, List.nil_append, List.mem_cons, List.not_mem_nil, or_false, forall_eq_or_imp, forall_eq, Array.mem_toList_iff] at h hs
  case h_1 => rw [← h]; exact hk
  case h_2 => rw [← h]; exact hk
  case h_3 => simp only [doPick, h] at hk ⊢; exact hk
  case h_4 =>
    unfold doAlloc at hk
    repeat' (split at hk <;> try exact hk.elim)
    cases (show (_, newC _ _ _) = (r, none) from hk)
  case h_5 =>
    unfold doBox at hk ⊢
    rw [← h]
    cases e : (ev σ _).cells with
    | none => rw [e] at hk; exact hk.elim
    | some cs =>
      rw [e] at hk
      dsimp only at hk ⊢
      cases e1 : isIn C.mu s with
      | true => rw [e1] at hk; cases (show (_, newC _ _ _) = (r, none) from hk)
      | false =>
        cases e2 : toDs cs with
        | none => rw [e1, e2] at hk; cases (show (_, newC _ _ _) = (r, none) from hk)
        | some l => rw [e1, e2] at hk; exact hk
  case h_8 => rw [← doLoad_objs h hs]; exact hk
  case h_9 =>
    have hk := Tr.sat_bind hk
    unfold doStore at hk
    repeat' (split at hk <;> try exact hk.elim)
    · cases (show (_, objC _ _ _) = (r, none) from hk)
    · have hk := (Tr.sat_need hk).2
      cases (show (_, objC _ _ _) = (r, none) from hk)
    · cases (show (_, objC _ _ _) = (r, none) from hk)
  case h_10 => simp only [doNil, h] at hk ⊢; exact hk
  case h_11 =>
    rw [← doBinW_objs h.1 h.2 hs.1, ← doBinG_objs h.1 h.2 hs.1]; exact hk
  case h_12 => simp only [doUn, h] at hk ⊢; exact hk
  case h_13 => rw [← doConv_objs h hs]; exact hk
  case h_14 =>
    unfold doMake at hk
    repeat' (split at hk <;> try exact hk.elim)
    cases hso : sameOp _ _ with
    | true =>
      rw [hso] at hk
      have hk := (Tr.sat_need hk).2
      cases (show (_, newC _ _ _) = (r, none) from hk)
    | false =>
      rw [hso] at hk
      have hk := (Tr.sat_need hk).2
      cases (show (_, newC _ _ _) = (r, none) from hk)
  case h_17 => simp only [doField, h] at hk ⊢; exact hk
  case h_18 => simp only [doFieldV, h] at hk ⊢; exact hk
  case h_19 => simp only [doIndex, h] at hk ⊢; exact hk
  case h_20 => rw [← doIndexAddr_objs h.1 h.2 hs.1]; exact hk
  case h_21 =>
    rw [← doLookup_objs h.1 hs.1]; exact hk
  case h_22 =>
    have hk := Tr.sat_bind hk
    unfold doMapUpdate at hk
    repeat' (split at hk <;> try exact hk.elim)
    cases (show (_, objC _ _ _) = (r, none) from hk)
  case h_23 => simp only [doExtract, h] at hk ⊢; exact hk
  case h_25 => rw [← doLen_objs h hs]; exact hk
  case h_26 =>
    have hA : ∀ {t u : Nat} {x y : Operand}, (doAppend C.tbl σ s t u x y).sat (· = (r, none)) → False := fun hk => by
      unfold doAppend at hk
      repeat' (split at hk <;> try exact hk.elim)
      have hk := (Tr.sat_need (Tr.sat_need (insideD_ok hk).1).2).2
      unfold growC at hk
      split at hk
      · cases (show (_, newC _ _ _) = (r, none) from hk)
      · cases (show (_, some _) = (r, none) from hk)
    unfold doAppends at hk
    split at hk
    · split at hk
      · unfold doAppendZ at hk
        repeat' (split at hk <;> try exact hk.elim)
        have hk := (Tr.sat_need (insideD_ok hk).1).2
        unfold growC at hk
        split at hk
        · cases (show (_, newC _ _ _) = (r, none) from hk)
        · cases (show (_, some _) = (r, none) from hk)
      · split at hk
        · split at hk
          · unfold doAppendV at hk
            repeat' (split at hk <;> try exact hk.elim)
            all_goals
              unfold growC at hk
              repeat' split at hk
              all_goals first
                | cases (show (_, newC _ _ _) = (r, none) from hk)
                | cases (show (_, some _) = (r, none) from hk)
          · exact (hA hk).elim
        · exact hk.elim
      · exact (hA hk).elim
    · exact hk.elim
  case h_27 =>
    unfold doCopy at hk
    repeat' (split at hk <;> try exact hk.elim)
    have hk := (Tr.sat_need (Tr.sat_need hk).2).2
    cases (show (_, objC _ _ _) = (r, none) from hk)
  case h_28 => simp only [doMin, h] at hk ⊢; exact hk
  case h_29 => simp only [doMin, h] at hk ⊢; exact hk
  case h_33 => simp only [doCap, h] at hk ⊢; exact hk
  case h_34 => exact hk.elim
end
end Go.Proofs.YtjebfbkigkjboaaGreatDoor.Sy
