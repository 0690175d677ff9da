/- The calculus, twenty-fourth part: a function's text carried out. -/
import Derived.Lib.Bytealg
import Derived.Test.YtdngaaploooceaaDoorP2
namespace Go.Proofs.YtdngaaploooceaaDoor.Sy
open Go.RowKit Kit

/-! ### slots that are still asked for -/
def bit (m s : Nat) : Bool := (m >>> s) % 2 == 1
def mset (m s : Nat) : Nat := m ||| (1 <<< s)
def mclr (m s : Nat) : Nat := bif bit m s then m ^^^ (1 <<< s) else m
def useO (x : Operand) (m : Nat) : Nat := match x with | .tmp t => mset m t | _ => m
def useL : List Operand → Nat → Nat
  | [], m => m
  | x :: r, m => useL r (useO x m)
/-- an operation's operands, as a list -/
def opnds : Op → List Operand
  | .move x | .assign x | .box _ x | .load _ x | .nilCheck x | .unOp _ _ x | .convert _ _ x | .fieldAddr _ x _ | .field _ x _ | .extract x _ => [x]
  | .pick c a b => [c, a, b]
  | .build _ ps | .buildSlice _ _ ps => ps.toList.map (·.2)
  | .store _ a v | .binOp _ _ a v _ | .makeSlice _ a v | .indexAddr _ a v | .index _ a v | .lookup _ a v _ => [a, v]
  | .makeMap _ (some r) => [r]
  | .slice _ x l h m => x :: (l.toList ++ (h.toList ++ m.toList))
  | .mapUpdate _ m k v => [m, k, v]
  | .call c => c.args.toList
  | _ => []
def lvG (o : G) (m : Nat) : Nat :=
  match o.g with
  | some (q, _) => mset (useL (opnds o.op) (match o.s with | some d => mclr m d | none => m)) q
  | none => useL (opnds o.op) (match o.s with | some d => mclr m d | none => m)
def lvGs : List G → Nat → Nat
  | [], m => m
  | o :: r, m => lvG o (lvGs r m)
def lvDs : List GD → Nat → Nat
  | [], m => m
  | o :: r, m => lvG o.g (lvDs r m)
def lv : GC → Nat → List (Nat × Nat) → Nat → Nat
  | .skip, lo, _, _ => lo
  | .region ops, lo, _, _ => lvGs ops lo
  | .draw ops, lo, _, _ => lvDs ops lo
  | .seq a b, lo, le, lr => lv a (lv b lo le lr) le lr
  | .cond c a b, lo, le, lr => useO c (lv a lo le lr ||| lv b lo le lr)
  | .block id a, lo, le, lr => lv a lo ((id, lo) :: le) lr
  | .loop a, _, le, lr => lv a 0 le lr
  | .exit id, _, le, _ => (get le id).getD 0
  | .ret, _, _, lr => lr
def keepM (m : Nat) : List (Nat × SV) → List (Nat × SV)
  | [] => []
  | (s, x) :: r => bif bit m s || Nat.ble GH s then (s, x) :: keepM m r else keepM m r
def prune (m : Nat) (σ : St) : St := { σ with env := keepM m σ.env }
def keepO (l : List Nat) : List (Nat × Ob) → List (Nat × Ob)
  | [] => []
  | (i, o) :: r => bif isIn l i then (i, o) :: keepO l r else keepO l r
def gcO (σ : St) : St := { σ with objs := keepO (reach σ.objs 400 (σ.env.flatMap fun p => p.2.ids) []) σ.objs }
theorem mem_get_keepM {m : Nat} : ∀ {env : List (Nat × SV)} {s : Nat} {x : SV}, get (keepM m env) s = some x → get env s = some x
  | [], _, _, h => by cases h
  | (t, y) :: r, s, x, h => by
    simp only [keepM] at h
    cases hb : bit m t || Nat.ble GH t with
    | true =>
      simp only [hb, cond_true, get] at h ⊢
      split at h
      · rename_i e; rw [if_pos e]; exact h
      · rename_i e; rw [if_neg e]; exact mem_get_keepM h
    | false =>
      simp only [hb, cond_false] at h
      have := mem_get_keepM h
      simp only [get]
      split
      · rename_i e; subst e
        -- the slot itself is dropped with all that stand under its number
        exfalso
        have key : ∀ {l : List (Nat × SV)}, get (keepM m l) t = none := fun {l} => by
          induction l with
          | nil => rfl
          | cons p l ih =>
            obtain ⟨u, z⟩ := p
            simp only [keepM]
            cases hb' : bit m u || Nat.ble GH u with
            | true =>
              simp only [cond_true, get]
              split
              · rename_i e; subst e; rw [hb] at hb'; cases hb'
              · exact ih
            | false => exact ih
        rw [key] at h; cases h
      · exact this
theorem mem_get_keepO {l : List Nat} : ∀ {ob : List (Nat × Ob)} {i : Nat} {o : Ob}, get (keepO l ob) i = some o → get ob i = some o
  | [], _, _, h => by cases h
  | (t, y) :: r, s, x, h => by
    simp only [keepO] at h
    cases hb : isIn l t with
    | true =>
      simp only [hb, cond_true, get] at h ⊢
      split at h
      · rename_i e; rw [if_pos e]; exact h
      · rename_i e; rw [if_neg e]; exact mem_get_keepO h
    | false =>
      simp only [hb, cond_false] at h
      have := mem_get_keepO h
      simp only [get]
      split
      · rename_i e; subst e
        exfalso
        have key : ∀ {q : List (Nat × Ob)}, get (keepO l q) t = none := fun {q} => by
          induction q with
          | nil => rfl
          | cons p q ih =>
            obtain ⟨u, z⟩ := p
            simp only [keepO]
            cases hb' : isIn l u with
            | true =>
              simp only [cond_true, get]
              split
              · rename_i e; subst e; rw [hb] at hb'; cases hb'
              · exact ih
            | false => exact ih
        rw [key] at h; cases h
      · exact this
theorem Weaker.prune (m : Nat) (σ : St) : Weaker σ (prune m σ) := fun _ _ M β _ _ h => ⟨M, β, h.less (Nat.le_refl _) (fun _ _ hs => .inr (mem_get_keepM hs)) (fun _ _ ho => ho)⟩
theorem Weaker.gcO (σ : St) : Weaker σ (gcO σ) := fun _ _ M β _ _ h => ⟨M, β, h.less (Nat.le_refl _) (fun _ _ hs => .inr hs) (fun _ _ ho => mem_get_keepO ho)⟩

/-! ### rows under the numbers of their slots -/
def renF (i s j : Nat) : Option Nat := if j = i then some s else if j = s then none else some j
def renO (i s : Nat) : List (Nat × Ob) → List (Nat × Ob)
  | [] => []
  | (j, o) :: r => if j = i then put (renO i s r) s (o.ren (renF i s)) else if j = s then renO i s r else put (renO i s r) j (o.ren (renF i s))
def renS (i s : Nat) (σ : St) : St := { σ with env := mapv (SV.ren (renF i s)) σ.env, objs := renO i s σ.objs }
theorem get_renO {i s : Nat} (hne : i ≠ s) : ∀ {ob : List (Nat × Ob)} {k : Nat} {o : Ob}, get (renO i s ob) k = some o → ∃ j o', renF i s j = some k ∧ get ob j = some o' ∧ o = o'.ren (renF i s) := by
  intro ob
  induction ob with
  | nil => intro k o h; cases h
  | cons p r ih =>
    obtain ⟨j, o1⟩ := p
    intro k o h
    simp only [renO] at h
    have rest : get (renO i s r) k = some o → renF i s j ≠ some k → ∃ j' o', renF i s j' = some k ∧ get ((j, o1) :: r) j' = some o' ∧ o = o'.ren (renF i s) := fun h hn => by
      obtain ⟨j', o', h1, h2, h3⟩ := ih h
      refine ⟨j', o', h1, ?_, h3⟩
      simp only [get]
      rw [if_neg (fun e => by subst e; exact hn h1)]; exact h2
    split at h
    · rename_i e; subst e
      rw [get_put] at h
      have hf : renF j s j = some s := by simp [renF]
      split at h
      · rename_i e; subst e; cases h
        exact ⟨j, o1, hf, by simp [get], rfl⟩
      · rename_i e
        exact rest h (by rw [hf]; intro e'; cases e'; exact e rfl)
    · rename_i hji
      split at h
      · rename_i e; subst e
        exact rest h (by simp [renF, hji])
      · rename_i hjs
        rw [get_put] at h
        have hf : renF i s j = some j := by simp [renF, hji, hjs]
        split at h
        · rename_i e; subst e; cases h
          exact ⟨j, o1, hf, by simp [get], rfl⟩
        · rename_i e
          exact rest h (by rw [hf]; intro e'; cases e'; exact e rfl)
theorem Weaker.rename {i s : Nat} (hne : i ≠ s) (σ : St) : Weaker σ (renS i s σ) := fun w0 M0 M β tm w h => by
  refine ⟨M, fun k => if k = s then β i else if k = i then none else β k, ?_⟩
  have hc : ∀ {k p}, (fun k => if k = s then β i else if k = i then none else β k) k = some p → (k = s ∧ β i = some p) ∨ (k ≠ s ∧ k ≠ i ∧ β k = some p) := fun {k p} hk => by
    simp only at hk
    split at hk
    · rename_i e; exact .inl ⟨e, hk⟩
    · rename_i e
      split at hk
      · cases hk
      · rename_i e'; exact .inr ⟨e, e', hk⟩
  have hf : ∀ j k p, renF i s j = some k → β j = some p → (fun k => if k = s then β i else if k = i then none else β k) k = some p := fun j k p hj hp => by
    unfold renF at hj
    split at hj
    · rename_i e; subst e; cases hj; simpa using hp
    · rename_i e
      split at hj
      · cases hj
      · rename_i e'; cases hj; simp [e, e', hp]
  refine { h with apart := fun k p b hk hb => ?_, inj := fun k l p q b hk hl hb hb' => ?_, env := fun t x hx => ?_, objs := fun k o ho => ?_ }
  · rcases hc hk with ⟨_, h1⟩ | ⟨_, _, h1⟩ <;> exact h.apart _ p b h1 hb
  · rcases hc hk with ⟨e1, h1⟩ | ⟨n1, m1, h1⟩ <;> rcases hc hl with ⟨e2, h2⟩ | ⟨n2, m2, h2⟩
    · rw [e1, e2]
    · exact absurd (h.inj i l p q b h1 h2 hb hb').symm m2
    · exact absurd (h.inj k i p q b h1 h2 hb hb') m1
    · exact h.inj k l p q b h1 h2 hb hb'
  · simp only [renS, get_mapv] at hx
    cases e : get σ.env t with
    | none => simp [e] at hx
    | some y =>
      simp [e] at hx; subst hx
      obtain ⟨v, hv, hr⟩ := h.env t y e
      exact ⟨v, hv, hr.ren (fun _ _ h => h) hf⟩
  · obtain ⟨j, o', hj, ho', rfl⟩ := get_renO hne ho
    obtain ⟨p, hp, hr⟩ := h.objs j o' ho'
    exact ⟨p, hf j k p hj hp, hr.ren (fun _ _ h => h) hf⟩
/-- the nil slice is an empty row of the call's own -/
theorem Weaker.nilRow {σ : St} {s i : Nat} {t : Ty} {T : TypeId} (hs : get σ.env s = some (.e (.c .nil))) : Weaker σ (((σ.kill i).set s (.e (.c (.row i)))).obj i (.row t T [])) := fun w0 M0 M β tm w h => by
  have hk := h.kill i
  obtain ⟨v, hv, hn⟩ := h.env s _ hs
  have hv' : v = .slice none 0 0 := hn
  subst hv'
  have hb : ∀ j p, (fun j => if j = i then none else β j) j = some p → (fun j => if j = i then some (.inr (.slice none 0 0)) else β j) j = some p := fun j p hj => by
    by_cases e : j = i
    · simp [e] at hj
    · simp [e] at hj; simp [e, hj]
  have hs' : ∀ {j p}, (fun j => if j = i then some (.inr (.slice none 0 0)) else β j) j = some p → (j = i ∧ p = .inr (.slice none 0 0)) ∨ (j ≠ i ∧ (fun j => if j = i then none else β j) j = some p) := fun {j p} hj => by
    by_cases e : j = i
    · simp [e] at hj; exact .inl ⟨e, hj.symm⟩
    · simp [e] at hj; exact .inr ⟨e, by simp [e, hj]⟩
  refine ⟨M, fun j => if j = i then some (.inr (.slice none 0 0)) else β j, { hk with apart := ?_, inj := ?_, env := ?_, objs := ?_ }⟩
  · intro j p b hj hp
    rcases hs' hj with ⟨_, rfl⟩ | ⟨_, hj⟩
    · cases hp
    · exact hk.apart j p b hj hp
  · intro j k p q b hj hq hp hq'
    rcases hs' hj with ⟨_, rfl⟩ | ⟨_, hj⟩
    · cases hp
    · rcases hs' hq with ⟨_, rfl⟩ | ⟨_, hq⟩
      · cases hq'
      · exact hk.inj j k p q b hj hq hp hq'
  · intro t y hy
    simp only [St.obj, St.set, get_put] at hy
    split at hy
    · rename_i e; subst e; cases hy
      exact ⟨_, hv, by simp, none, 0, 0, rfl⟩
    · obtain ⟨u, hu, hr⟩ := hk.env t y hy
      exact ⟨u, hu, hr.weak (fun _ _ h => h) hb⟩
  · intro j o ho
    simp only [St.obj, St.set, get_put] at ho
    by_cases e : i = j
    · subst e
      simp at ho; subst ho
      exact ⟨.inr (.slice none 0 0), by simp, [], World.ownsRow_nil w _ _ _, .nil⟩
    · simp [e] at ho
      obtain ⟨p, hp, hr⟩ := hk.objs j o ho
      exact ⟨p, hb j p hp, hr.weak (fun _ _ h => h) hb⟩
theorem CVs.setAt {M : Snap} {β : Plc} {x : CV} {u : Value} (hx : CVR M β x u) : ∀ {l : List CV} {vs : List Value} {c : Nat}, CVs M β l vs → vs[c]? = some u → CVs M β (l.set c x) vs
  | [], _, _, .nil, h => by simp at h
  | _ :: _, _, 0, .cons h1 h2 h3, h => by
    simp at h; subst h
    exact .cons hx h2 h3
  | _ :: _, _, c + 1, .cons h1 h2 h3, h => .cons h1 h2 (CVs.setAt hx h3 (by simpa using h))
theorem CVs.nilAt {M : Snap} {β : Plc} : ∀ {l : List CV} {vs : List Value} {c : Nat}, CVs M β l vs → l[c]? = some .nil → vs[c]? = some (.slice none 0 0)
  | [], _, _, .nil, h => by simp at h
  | _ :: _, _, 0, .cons h1 _ _, h => by
    simp at h; subst h
    exact congrArg some (show _ = _ from h1)
  | _ :: _, _, c + 1, .cons _ _ h3, h => by simpa using CVs.nilAt h3 (c := c) (by simpa using h)
/-- the nil slice in a cell is an empty row of the call's own -/
theorem Weaker.nilCell {σ : St} {o c i : Nat} {t : Ty} {T T' : TypeId} {cs : List CV} (ho : get σ.objs o = some (.cells T cs)) (hc : cs[c]? = some .nil) (hne : o ≠ i) : Weaker σ (((σ.kill i).obj o (.cells T ((cs.map (CV.kill i)).set c (.row i)))).obj i (.row t T' [])) := fun w0 M0 M β tm w h => by
  have hk := h.kill i
  have hb : ∀ j p, (fun j => if j = i then none else β j) j = some p → (fun j => if j = i then some (.inr (.slice none 0 0)) else β j) j = some p := fun j p hj => by
    by_cases e : j = i
    · simp [e] at hj
    · simp [e] at hj; simp [e, hj]
  have hs' : ∀ {j p}, (fun j => if j = i then some (.inr (.slice none 0 0)) else β j) j = some p → (j = i ∧ p = .inr (.slice none 0 0)) ∨ (j ≠ i ∧ (fun j => if j = i then none else β j) j = some p) := fun {j p} hj => by
    by_cases e : j = i
    · simp [e] at hj; exact .inl ⟨e, hj.symm⟩
    · simp [e] at hj; exact .inr ⟨e, by simp [e, hj]⟩
  refine ⟨M, fun j => if j = i then some (.inr (.slice none 0 0)) else β j, { hk with apart := ?_, inj := ?_, env := ?_, objs := ?_ }⟩
  · intro j p b hj hp
    rcases hs' hj with ⟨_, rfl⟩ | ⟨_, hj⟩
    · cases hp
    · exact hk.apart j p b hj hp
  · intro j k p q b hj hq hp hq'
    rcases hs' hj with ⟨_, rfl⟩ | ⟨_, hj⟩
    · cases hp
    · rcases hs' hq with ⟨_, rfl⟩ | ⟨_, hq⟩
      · cases hq'
      · exact hk.inj j k p q b hj hq hp hq'
  · intro t y hy
    obtain ⟨u, hu, hr⟩ := hk.env t y hy
    exact ⟨u, hu, hr.weak (fun _ _ h => h) hb⟩
  · intro j ob hob
    simp only [St.obj, get_put] at hob
    by_cases e : i = j
    · subst e
      simp at hob; subst hob
      exact ⟨.inr (.slice none 0 0), by simp, [], World.ownsRow_nil w _ _ _, .nil⟩
    · simp [e] at hob
      by_cases e' : o = j
      · subst e'
        simp at hob; subst hob
        have hko : get (σ.kill i).objs o = some (.cells T (cs.map (CV.kill i))) := by
          show get (mapv (Ob.kill i) (del σ.objs i)) o = _
          rw [get_mapv, get_del, if_neg (fun h => hne h.symm), ho]; rfl
        obtain ⟨p, hp, hr⟩ := hk.objs o _ hko
        refine ⟨p, hb o p hp, ?_⟩
        cases p with
        | inr v => exact hr.elim
        | inl b =>
          obtain ⟨vs, h1, h2⟩ := hr
          have h3 : (cs.map (CV.kill i))[c]? = some .nil := by rw [List.getElem?_map, hc]; rfl
          have hx : CVR M (fun j => if j = i then some (.inr (.slice none 0 0)) else β j) (.row i) (.slice none 0 0) := ⟨by simp, none, 0, 0, rfl⟩
          exact ⟨vs, h1, CVs.setAt hx (h2.weak (fun _ _ h => h) hb) (CVs.nilAt h2 h3)⟩
      · simp [e'] at hob
        obtain ⟨p, hp, hr⟩ := hk.objs j ob hob
        exact ⟨p, hb j p hp, hr.weak (fun _ _ h => h) hb⟩
/-- slots, and cells of own blocks, that hold rows at a loop's head: the slot, the elements' kind and type -/
structure NR where
  s : Nat
  t : Ty
  T : Nat
/-- from this number on: cell c of own block o, as CB + 1000 o + c -/
def CB : Nat := 1000000000
def rowAtS (q : NR) (σ : St) : St :=
  match get σ.env q.s with
  | some (.e (.c .nil)) => ((σ.kill q.s).set q.s (.e (.c (.row q.s)))).obj q.s (.row q.t q.T [])
  | some (.e (.c (.row i))) => if i = q.s then σ else renS i q.s σ
  | _ => σ
def rowAtC (q : NR) (o c : Nat) (σ : St) : St :=
  match get σ.objs o with
  | some (.cells T cs) =>
    match cs[c]? with
    | some .nil => if o = q.s then σ else ((σ.kill q.s).obj o (.cells T ((cs.map (CV.kill q.s)).set c (.row q.s)))).obj q.s (.row q.t q.T [])
    | some (.row i) => if i = q.s then σ else renS i q.s σ
    | _ => σ
  | _ => σ
def rowAt (q : NR) (σ : St) : St := bif Nat.ble CB q.s then rowAtC q ((q.s - CB) / 1000) ((q.s - CB) % 1000) σ else rowAtS q σ
def rowsAt : List NR → St → St
  | [], σ => σ
  | q :: r, σ => rowsAt r (rowAt q σ)
theorem Weaker.rowsAt : ∀ (l : List NR) (σ : St), Weaker σ (rowsAt l σ)
  | [], σ => .refl σ
  | q :: r, σ => by
    refine Weaker.trans ?_ (Weaker.rowsAt r (rowAt q σ))
    unfold rowAt
    cases Nat.ble CB q.s with
    | false =>
      simp only [cond_false, rowAtS]
      split
      · rename_i h; exact Weaker.nilRow h
      · split
        · exact .refl σ
        · rename_i h; exact Weaker.rename h σ
      · exact .refl σ
    | true =>
      simp only [cond_true, rowAtC]
      split
      · rename_i ho
        split
        · rename_i hc
          split
          · exact .refl σ
          · rename_i hne; exact Weaker.nilCell ho hc hne
        · split
          · exact .refl σ
          · rename_i h; exact Weaker.rename h σ
        · exact .refl σ
      · exact .refl σ
/-- truth values that are known, as any others -/
def CV.unk : CV → CV
  | .kb b => .d (.v (.bool b))
  | x => x
def SV.unk : SV → SV
  | .e (.c x) => .e (.c x.unk)
  | .e (.agg l) => .e (.agg (l.map CV.unk))
  | .tup l => .tup (l.map fun x => match x with | .c x => .c x.unk | .agg l => .agg (l.map CV.unk))
def Ob.unk : Ob → Ob
  | .cells T cs => .cells T (cs.map CV.unk)
  | o => o
def unkS (σ : St) : St := { σ with env := mapv SV.unk σ.env, objs := mapv Ob.unk σ.objs }
section
variable {M : Snap} {β : Plc}
theorem CVR.unk {x : CV} {v : Value} (h : CVR M β x v) : CVR M β x.unk v := by
  cases x <;> first | exact h | (rw [show v = _ from h]; exact DR.v rfl)
theorem CVs.unk {l : List CV} {vs : List Value} (h : CVs M β l vs) : CVs M β (l.map CV.unk) vs := by
  induction h with
  | nil => exact .nil
  | cons h1 h2 _ ih => exact .cons h1.unk h2 ih
theorem EVs.unk {l : List EV} {vs : List Value} (h : EVs M β l vs) : EVs M β (l.map fun x => match x with | .c x => .c x.unk | .agg l => .agg (l.map CV.unk)) vs := by
  induction h with
  | nil => exact .nil
  | @cons x u xs us h1 _ ih =>
    refine .cons ?_ ih
    cases x with
    | c x => exact CVR.unk h1
    | agg l => obtain ⟨vs, e, hc⟩ := h1; exact ⟨vs, e, hc.unk⟩
theorem SVR.unk {x : SV} {v : Value} (h : SVR M β x v) : SVR M β x.unk v := by
  rcases x with (c | l) | l
  · exact CVR.unk h
  · obtain ⟨vs, e, hc⟩ := h; exact ⟨vs, e, hc.unk⟩
  · obtain ⟨vs, e, hc⟩ := h; exact ⟨vs, e, hc.unk⟩
theorem OR.unk {w : World} {o : Ob} {p : Nat ⊕ Value} (h : OR M β w o p) : OR M β w o.unk p := by
  cases o <;> cases p <;> try exact h.elim
  · obtain ⟨vs, e, hc⟩ := h; exact ⟨vs, e, hc.unk⟩
  · exact h
  · exact h
end
theorem Weaker.unk (σ : St) : Weaker σ (unkS σ) := fun _ _ M β _ _ h => ⟨M, β, { h with
  env := fun s x hx => by
    simp only [unkS, get_mapv] at hx
    obtain ⟨y, hy, rfl⟩ := Option.map_eq_some_iff.1 hx
    obtain ⟨v, hv, hr⟩ := h.env s y hy
    exact ⟨v, hv, hr.unk⟩
  objs := fun i o ho => by
    simp only [unkS, get_mapv] at ho
    obtain ⟨y, hy, rfl⟩ := Option.map_eq_some_iff.1 ho
    obtain ⟨p, hp, hr⟩ := h.objs i y hy
    exact ⟨p, hp, hr.unk⟩ }⟩
/-- a state as it stands at a loop's head -/
def headS (nr : List NR) (m : Nat) (σ : St) : St := gcO (rowsAt nr (unkS (prune m σ)))
theorem Weaker.headS (nr : List NR) (m : Nat) (σ : St) : Weaker σ (headS nr m σ) := (((Weaker.prune m σ).trans (Weaker.unk _)).trans (Weaker.rowsAt nr _)).trans (Weaker.gcO _)

/-! ### the text, carried out -/
inductive Ex where
  | nx
  | ex (id : Nat)
  | rt
def iter : Nat → (St → Tr (Ex × St)) → (St → St) → St → Tr (Ex × St)
  | 0, _, _, _ => .fail
  | n + 1, f, h, σ => (f σ).bind fun r => match r.1 with | .nx => iter n f h (h r.2) | _ => .ret r
/-- what goes into a struct or a slice that a drawn region makes is laid still ahead of it -/
def frzD (σ : St) : List GD → List Nat
  | [] => []
  | o :: r => (match o.g.op with | .buildSlice _ _ ps | .build _ ps => ps.toList.flatMap fun p => (ev σ p.2).ids | _ => []) ++ frzD σ r
/-- rows in marked slots are laid still ahead of drawn regions -/
def FS : Nat := 4000000
def frzS (σ : St) : List Nat → List Nat
  | [] => []
  | m :: r => bif Nat.ble FS m then (ev σ (.tmp (m - FS))).ids ++ frzS σ r else frzS σ r
def frz0 (C : Cx) (ops : List GD) (σ : St) : St := frzCs C.mu σ.objs (frzIds (frzD σ ops ++ frzS σ C.mu) σ)
theorem Weaker.frz0 (C : Cx) (ops : List GD) (σ : St) : Weaker σ (frz0 C ops σ) := (Weaker.frz _ _).trans (Weaker.frzCs _ _ _)
/-- a slot that was tested -/
def knowB (c : Operand) (b : Bool) (σ : St) : St := match c with | .tmp s => σ.set s (.e (.c (.kb b))) | _ => σ
theorem Weaker.knowB {c : Operand} {b : Bool} {σ : St} (h : ev σ c = .e (.c (.d (.v (.bool b))))) : Weaker σ (knowB c b σ) := fun w0 M0 M β tm w hr => by
  refine ⟨M, β, ?_⟩
  cases c with
  | tmp s =>
    simp only [ev] at h
    split at h
    · cases e : get σ.env s with
      | none => rw [e] at h; cases h
      | some x =>
        rw [e] at h
        have hx : x = .e (.c (.d (.v (.bool b)))) := h
        subst hx
        obtain ⟨v, hv, hd⟩ := hr.env s _ e
        have hv' : v = .bool b := by cases (show DR M (.v (.bool b)) v from hd); rfl
        subst hv'
        exact hr.know hv rfl
    · cases h
  | _ => exact hr
/-- what loops come to, by the block that they stand in -/
abbrev LP := List (Nat × (St → Tr (Ex × St)))
def keyOf : List (Nat × Nat) → Nat
  | (id, _) :: _ => id
  | [] => 0
/-- rows that no operation of a drawn region lays anew -/
def zOf (σ : St) (rs : List Rec) : List Nat := (keys σ.objs).filter fun z => rs.all fun r => match r.ch with | some (ks, _) => !isIn ks z | none => true
/-- own blocks that no operation of a drawn region writes -/
def yOf (C : Cx) (σ : St) (ops : List GD) (rs : List Rec) : List Nat := (keys σ.objs).filter fun y => yT C [BG + y] ops rs σ
/-- the operations ahead of those that are ordered with all -/
def preN : List GD → Nat
  | [] => 0
  | o :: r => match preN r with | 0 => if noUn o then 0 else 1 | n + 1 => n + 2
theorem preN_ok : ∀ l : List GD, (l.drop (preN l)).all noUn = true
  | [] => rfl
  | o :: r => by
    have ih := preN_ok r
    simp only [preN]
    split
    · rename_i e
      rw [e, List.drop_zero] at ih
      split
      · rename_i h; simp only [List.drop_zero, List.all_cons, h, ih, Bool.and_self]
      · simpa using ih
    · rename_i n e; rw [e] at ih; exact ih
def zyOf (C : Cx) (σ : St) (ops : List GD) (rs : List Rec) : List Nat := yOf C σ ops rs ++ ((yOf C σ ops rs).map (BG + ·) ++ zOf σ rs)
def shpT (o ob : List (Nat × Ob)) : List Nat → Tr Unit
  | [] => .ret ()
  | z :: r =>
    match get o z, get ob z with
    | some (.row t _ l), some (.row t' _ l') => if t' = t then Tr.need (decide (l'.length = l.length)) (shpT o ob r) else .fail
    | some (.cells _ _), some (.cells _ _) => shpT o ob r
    | some (.map _ _ _ _ _), some (.map _ _ _ _ _) => shpT o ob r
    | none, none => shpT o ob r
    | _, _ => .fail
def zT (Z : List Nat) (o : List (Nat × Ob)) : List Rec → Tr Unit
  | [] => .ret ()
  | r :: rs =>
    match r.ch with
    | none => zT Z o rs
    | some (ks, ob) => if ks.all (fun k => !isIn Z k) = true then (shpT o ob Z).bind fun _ => zT Z o rs else .fail
theorem shpT_ok {o ob : List (Nat × Ob)} : ∀ {Z : List Nat} {K : Unit → Prop}, (shpT o ob Z).sat K → K () ∧ ∀ z ∈ Z, shp (get ob z) = shp (get o z)
  | [], K, h => ⟨h, fun z hz => by cases hz⟩
  | z :: r, K, h => by
    simp only [shpT] at h
    split at h
    · rename_i t T l t' T' l' e1 e2
      split at h
      · rename_i e; subst e
        obtain ⟨h1, h2⟩ := Tr.sat_need h
        obtain ⟨h3, h4⟩ := shpT_ok h2
        refine ⟨h3, fun y hy => ?_⟩
        rcases List.mem_cons.1 hy with rfl | hy
        · rw [e1, e2]; simp only [shp, of_decide_eq_true h1]
        · exact h4 y hy
      · exact h.elim
    all_goals first
      | exact h.elim
      | (rename_i e1 e2
         obtain ⟨h3, h4⟩ := shpT_ok h
         refine ⟨h3, fun y hy => ?_⟩
         rcases List.mem_cons.1 hy with rfl | hy
         · simp only [e1, e2, shp]
         · exact h4 y hy)
theorem zT_ok {Z : List Nat} {o : List (Nat × Ob)} : ∀ {rs : List Rec} {K : Unit → Prop}, (zT Z o rs).sat K → K () ∧ ∀ r ∈ rs, KZ Z r.ch ∧ SZ Z o r.ch
  | [], K, h => ⟨h, fun r hr => by cases hr⟩
  | q :: rs, K, h => by
    simp only [zT] at h
    split at h
    · rename_i e
      obtain ⟨h1, h2⟩ := zT_ok h
      refine ⟨h1, fun r hr => ?_⟩
      rcases List.mem_cons.1 hr with rfl | hr
      · rw [e]; exact ⟨trivial, trivial⟩
      · exact h2 r hr
    · rename_i ks ob e
      split at h
      · rename_i hk
        obtain ⟨h1, h2⟩ := shpT_ok (Tr.sat_bind h)
        obtain ⟨h3, h4⟩ := zT_ok h1
        refine ⟨h3, fun r hr => ?_⟩
        rcases List.mem_cons.1 hr with rfl | hr
        · rw [e]
          refine ⟨fun k hk' => ?_, fun z hz => h2 z (isIn_mem hz)⟩
          have := List.all_eq_true.1 hk k hk'
          simpa using this
        · exact h4 r hr
      · exact h.elim
/-! ### drawn regions in which truth values are asked more than once -/
/-- the mark: what was asked once in a drawn region is known from there on -/
def GK : Nat := 6000000
/-- the slots whose truth values an operation asks -/
def askG (g : G) : List Nat := (match g.g with | some (q, _) => [q] | none => []) ++ (match g.op with | .pick (.tmp q) _ _ => [q] | _ => [])
def KInv (kn : List (Nat × Bool)) (σ : St) : Prop := ∀ q b, get kn q = some b → ev σ (.tmp q) = .e (.c (.d (.v (.bool b))))
def splitK {α : Type} (σ : St) (f : List (Nat × Bool) → Tr α) : List Nat → List (Nat × Bool) → Tr α
  | [], kn => f kn
  | q :: r, kn =>
    match get kn q with
    | some _ => splitK σ f r kn
    | none =>
      match ev σ (.tmp q) with
      | .e (.c (.d (.v (.bool b)))) => .ite b (splitK σ f r ((q, true) :: kn)) (splitK σ f r ((q, false) :: kn))
      | _ => splitK σ f r kn
theorem splitK_ok {α : Type} {σ : St} {f : List (Nat × Bool) → Tr α} {K : α → Prop} : ∀ {qs : List Nat} {kn : List (Nat × Bool)}, KInv kn σ → (splitK σ f qs kn).sat K → ∃ kn', KInv kn' σ ∧ (f kn').sat K
  | [], kn, hi, h => ⟨kn, hi, h⟩
  | q :: r, kn, hi, h => by
    unfold splitK at h
    split at h
    · exact splitK_ok hi h
    · split at h
      · rename_i b hb
        have add : ∀ c, b = c → KInv ((q, c) :: kn) σ := fun c e p d hp => by
          simp only [get] at hp
          split at hp
          · rename_i hq; subst hq; cases hp; rw [hb, e]
          · exact hi p d hp
        cases b with
        | true => exact splitK_ok (add true rfl) (h.1 rfl)
        | false => exact splitK_ok (add false rfl) (h.2 rfl)
      · exact splitK_ok hi h
theorem ev_get {σ : St} {q : Nat} {b : Bool} (h : ev σ (.tmp q) = .e (.c (.d (.v (.bool b))))) : get σ.env q = some (.e (.c (.d (.v (.bool b))))) := by
  simp only [ev] at h
  split at h
  · cases e : get σ.env q with
    | none => rw [e] at h; cases h
    | some x => rw [e] at h; exact congrArg some h
  · cases h
def pickK (C : Cx) (kn : List (Nat × Bool)) (σ : St) (g : G) : Tr Res :=
  match g.op with
  | .pick (.tmp q) x y =>
    match get kn q with
    | some b => match b with | true => .ret (ev σ x, none) | false => .ret (ev σ y, none)
    | none => stepOp C σ (g.s.getD 0) g.op
  | _ => stepOp C σ (g.s.getD 0) g.op
def stepK (C : Cx) (kn : List (Nat × Bool)) (σ : St) (g : G) : Tr Res :=
  match g.g with
  | none => pickK C kn σ g
  | some (q, want) =>
    match get kn q with
    | some b => if b = want then pickK C kn σ g else .ret (.e (.c .und), none)
    | none => guardR (get σ.env q) want (pickK C kn σ g)
theorem pickK_ok {C : Cx} {kn : List (Nat × Bool)} {σ : St} {g : G} (hi : KInv kn σ) {K : Res → Prop} (h : (pickK C kn σ g).det.sat K) : (stepOp C σ (g.s.getD 0) g.op).det.sat K := by
  unfold pickK at h
  split at h
  · rename_i q x y hop
    split at h
    · rename_i b hq
      have hb := hi q b hq
      rw [hop]
      simp only [stepOp, doPick, hb, Tr.det]
      cases b with
      | true => exact ⟨fun _ => h, fun e => by cases e⟩
      | false => exact ⟨(fun e => by cases e), fun _ => h⟩
    · exact h
  · exact h
theorem guardR_det {v : Option SV} {want : Bool} {t t' : Tr Res} {K : Res → Prop} (hk : (guardR v want t).det.sat K) (h : t.det.sat K → t'.det.sat K) : (guardR v want t').det.sat K := by
  unfold guardR at hk ⊢
  split at hk
  · exact hk
  · split at hk
    · rename_i e; rw [if_pos e]; exact h hk
    · rename_i e; rw [if_neg e]; exact hk
  · exact ⟨fun e => h (hk.1 e), hk.2⟩
  · exact hk.elim
theorem stepK_ok {C : Cx} {kn : List (Nat × Bool)} {σ : St} {g : G} (hi : KInv kn σ) {K : Res → Prop} (h : (stepK C kn σ g).det.sat K) : (stepR C σ g).det.sat K := by
  unfold stepK at h
  unfold stepR
  split at h
  · rename_i hg; rw [hg]; exact pickK_ok hi h
  · rename_i q want hg
    rw [hg]
    split at h
    · rename_i b hq
      simp only [ev_get (hi q b hq), guardR, Tr.det]
      split at h
      · rename_i e; subst e; exact ⟨fun _ => pickK_ok hi h, fun e => by cases b <;> cases e⟩
      · rename_i e; exact ⟨fun e' => absurd (eq_of_beq e') e, fun _ => h⟩
    · exact guardR_det h (pickK_ok hi)
def knD (kn : List (Nat × Bool)) (s : Option Nat) : List (Nat × Bool) := match s with | some s => del kn s | none => kn
def runK (C : Cx) : List GD → List (Nat × Bool) → List Rec → St → Tr (St × List Rec)
  | [], _, fl, σ => .ret (σ, fl)
  | o :: rest, kn, fl, σ => splitK σ (fun kn => (stepK C kn σ o.g).det.bind fun r => (upd (σ.app r.2) o.g.s r.1).bind fun σ' =>
      runK C rest (knD kn o.g.s) (fl ++ [⟨o.g.s, r.1, r.2, lightB [] σ o r.1 r.2⟩]) σ') (askG o.g) kn
theorem ev_app {σ : St} {q : Nat} {b : Bool} (h : ev σ (.tmp q) = .e (.c (.d (.v (.bool b))))) (ch : Chg) : ev (σ.app ch) (.tmp q) = .e (.c (.d (.v (.bool b)))) := by
  have hg := ev_get h
  cases ch with
  | none => exact h
  | some p =>
    obtain ⟨ks, ob⟩ := p
    simp only [ev] at h ⊢
    split at h
    · rename_i hq
      rw [if_pos hq]
      show (get (killEnv ks σ.env) q).getD .any = _
      have : ∀ (ks : List Nat), killL ks (.e (.c (.d (.v (.bool b))))) = .e (.c (.d (.v (.bool b)))) := fun ks => by
        induction ks with
        | nil => rfl
        | cons k ks ih => exact ih
      rw [get_killEnv, hg, Option.map_some, this]; rfl
    · cases h
theorem KInv.upd {kn : List (Nat × Bool)} {σ σ' : St} {ch : Chg} {s : Option Nat} {X : SV} (hi : KInv kn σ) (e : σ' = Rec.next ⟨s, X, ch, false⟩ σ) : KInv (knD kn s) σ' := by
  subst e
  intro q b hq
  unfold knD at hq
  unfold Rec.next
  cases s with
  | none => exact ev_app (hi q b hq) ch
  | some s =>
    simp only at hq ⊢
    rw [get_del] at hq
    split at hq
    · cases hq
    · rename_i hs
      have := ev_app (hi q b hq) ch
      simp only [ev, St.set] at this ⊢
      rw [get_put, if_neg hs]; exact this
theorem upd_next {σ σ' : St} {s : Option Nat} {r : Res} (h : (upd (σ.app r.2) s r.1).sat (· = σ')) : σ' = Rec.next ⟨s, r.1, r.2, false⟩ σ := by
  unfold upd at h
  unfold Rec.next
  cases s with
  | none => exact (show _ = _ from h).symm
  | some s =>
    simp only at h ⊢
    split at h
    · exact (show _ = _ from h).symm
    · exact h.elim
theorem upd_val {σ : St} {s : Option Nat} {x : SV} {K : St → Prop} (h : (upd σ s x).sat K) : ∃ σ', (upd σ s x).sat (· = σ') ∧ K σ' := by
  unfold upd at h ⊢
  cases s with
  | none => exact ⟨_, rfl, h⟩
  | some s =>
    simp only at h ⊢
    split at h
    · rename_i hs; rw [if_pos hs]; exact ⟨_, rfl, h⟩
    · exact h.elim
theorem runK_val {C : Cx} : ∀ {l : List GD} {kn : List (Nat × Bool)} {fl : List Rec} {σ : St} {K : St × List Rec → Prop}, KInv kn σ → (runK C l kn fl σ).sat K → ∃ p, (runDs C [] fl l σ).sat (· = p) ∧ K p
  | [], kn, fl, σ, K, _, h => ⟨_, rfl, h⟩
  | o :: rest, kn, fl, σ, K, hi, h => by
    obtain ⟨kn', hi', h1⟩ := splitK_ok hi h
    obtain ⟨r, h2, h3⟩ := Tr.det_val (Tr.sat_bind h1)
    obtain ⟨σ', h4, h5⟩ := upd_val (Tr.sat_bind h3)
    obtain ⟨p, h6, h7⟩ := runK_val (hi'.upd (upd_next h4)) h5
    refine ⟨p, ?_, h7⟩
    refine Tr.bind_sat (?_ : (stepD C [] σ o).sat _)
    unfold stepD
    refine Tr.bind_sat (sat_mono (stepK_ok hi' h2) fun r' hr' => ?_)
    subst hr'
    refine Tr.bind_sat (sat_mono h4 fun σ'' hσ => ?_)
    subst hσ
    exact h6
/-- the same records, told for these own blocks -/
def relab (C : Cx) (Z : List Nat) : List GD → List Rec → St → List Rec
  | o :: os, r :: rs, σ => ⟨r.d, r.X, r.ch, lightB Z σ o r.X r.ch⟩ :: relab C Z os rs (r.next σ)
  | _, _, _ => []
theorem relab_val {C : Cx} (Z : List Nat) : ∀ {l : List GD} {fl fl' : List Rec} {σ : St} {p : St × List Rec}, (runDs C [] fl l σ).sat (· = p) → ∃ rs, p.2 = fl ++ rs ∧ (runDs C Z fl' l σ).sat (· = (p.1, fl' ++ relab C Z l rs σ))
  | [], fl, fl', σ, p, h => ⟨[], by have h : (σ, fl) = p := h; subst h; simp, by have h : (σ, fl) = p := h; subst h; show (σ, fl') = _; simp [relab]⟩
  | o :: rest, fl, fl', σ, p, h => by
    have h1 := Tr.sat_bind h
    unfold stepD at h1
    obtain ⟨r, h2, h3⟩ := Tr.det_val (Tr.sat_bind h1)
    obtain ⟨σ', h4, h5⟩ := upd_val (Tr.sat_bind h3)
    have e := upd_next h4
    obtain ⟨rs, h6, h7⟩ := relab_val Z (fl' := fl' ++ [⟨o.g.s, r.1, r.2, lightB Z σ o r.1 r.2⟩]) (show (runDs C [] _ rest σ').sat (· = p) from h5)
    refine ⟨⟨o.g.s, r.1, r.2, lightB [] σ o r.1 r.2⟩ :: rs, by rw [h6, List.append_assoc]; rfl, ?_⟩
    refine Tr.bind_sat (?_ : (stepD C Z σ o).sat _)
    unfold stepD
    refine Tr.bind_sat (sat_mono h2 fun r' hr' => ?_)
    subst hr'
    refine Tr.bind_sat (sat_mono h4 fun σ'' hσ => ?_)
    subst hσ
    show (runDs C Z (fl' ++ [⟨o.g.s, r'.1, r'.2, lightB Z σ o r'.1 r'.2⟩]) rest σ'').sat _
    refine sat_mono h7 fun q hq => ?_
    rw [hq]
    show (p.1, _) = (p.1, _)
    rw [List.append_assoc]
    congr 2
    show _ = relab C Z (o :: rest) (_ :: rs) σ
    rw [relab, e]; rfl
def exec (N : Nat) (C : Cx) (nr : List NR) (lp : LP) : GC → Nat → List (Nat × Nat) → Nat → St → Tr (Ex × St)
  | .skip, _, _, _, σ => .ret (.nx, σ)
  | .region ops, lo, _, _, σ => (runGs C ops σ).bind fun σ' => .ret (.nx, prune lo σ')
  | .draw ops, lo, _, _, σ => bif isIn C.mu GK then
      (runK C ops [] [] (frz0 C ops σ)).bind fun p =>
        if okP (p.2.map Rec.flag) ops (p.2.map Rec.flag) = true then .ret (.nx, prune lo p.1)
        else if (okP ((relab C (zyOf C (frz0 C ops σ) (ops.take (preN ops)) (p.2.take (preN ops))) ops p.2 (frz0 C ops σ)).map Rec.flag) ops ((relab C (zyOf C (frz0 C ops σ) (ops.take (preN ops)) (p.2.take (preN ops))) ops p.2 (frz0 C ops σ)).map Rec.flag) && yT C (zyOf C (frz0 C ops σ) (ops.take (preN ops)) (p.2.take (preN ops))) (ops.take (preN ops)) ((relab C (zyOf C (frz0 C ops σ) (ops.take (preN ops)) (p.2.take (preN ops))) ops p.2 (frz0 C ops σ)).take (preN ops)) (frz0 C ops σ)) = true then (zT (zyOf C (frz0 C ops σ) (ops.take (preN ops)) (p.2.take (preN ops))) (frz0 C ops σ).objs ((relab C (zyOf C (frz0 C ops σ) (ops.take (preN ops)) (p.2.take (preN ops))) ops p.2 (frz0 C ops σ)).take (preN ops))).bind fun _ => .ret (.nx, prune lo p.1) else .fail
    else
      (runDs C [] [] ops (frz0 C ops σ)).bind fun p =>
    if okP (p.2.map Rec.flag) ops (p.2.map Rec.flag) = true then .ret (.nx, prune lo p.1)
    else (runDs C (zyOf C (frz0 C ops σ) (ops.take (preN ops)) (p.2.take (preN ops))) [] ops (frz0 C ops σ)).bind fun p' =>
      if (okP (p'.2.map Rec.flag) ops (p'.2.map Rec.flag) && yT C (zyOf C (frz0 C ops σ) (ops.take (preN ops)) (p.2.take (preN ops))) (ops.take (preN ops)) (p'.2.take (preN ops)) (frz0 C ops σ)) = true then (zT (zyOf C (frz0 C ops σ) (ops.take (preN ops)) (p.2.take (preN ops))) (frz0 C ops σ).objs (p'.2.take (preN ops))).bind fun _ => .ret (.nx, prune lo p'.1) else .fail
  | .seq a b, lo, le, lr, σ => (exec N C nr lp a (lv b lo le lr) le lr σ).bind fun r => match r.1 with | .nx => exec N C nr lp b lo le lr r.2 | _ => .ret r
  | .cond c a b, lo, le, lr, σ =>
    match ev σ c with
    | .e (.c (.kb t)) => match t with | true => exec N C nr lp a lo le lr σ | false => exec N C nr lp b lo le lr σ
    | .e (.c (.d (.v (.bool t)))) => .ite t (exec N C nr lp a lo le lr (knowB c true σ)) (exec N C nr lp b lo le lr (knowB c false σ))
    | _ => .fail
  | .block id a, lo, le, lr, σ => (exec N C nr lp a lo ((id, lo) :: le) lr σ).bind fun r => match r.1 with | .ex i => .ret (if i = id then (.nx, r.2) else r) | _ => .ret r
  | .loop a, _, le, lr, σ =>
    match get lp (keyOf le) with
    | some S => S (headS nr (lv a 0 le lr) σ)
    | none => iter N (fun σ => exec N C nr lp a (lv a 0 le lr) le lr σ) (headS nr (lv a 0 le lr)) (headS nr (lv a 0 le lr) σ)
  | .exit id, _, le, _, σ => .ret (.ex id, gcO (prune ((get le id).getD 0) σ))
  | .ret, _, _, lr, σ => .ret (.rt, gcO (prune lr σ))

/-- a loop, and what stands round it -/
structure LI where
  a : GC
  le : List (Nat × Nat)
  lr : Nat
def LI.m (i : LI) : Nat := lv i.a 0 i.le i.lr
def LI.h (i : LI) (nr : List NR) : St → St := headS nr i.m
def LI.f (i : LI) (N : Nat) (C : Cx) (nr : List NR) (lp : LP) : St → Tr (Ex × St) := exec N C nr lp i.a i.m i.le i.lr
def loops : GC → Nat → List (Nat × Nat) → Nat → List LI
  | .seq a b, lo, le, lr => loops a (lv b lo le lr) le lr ++ loops b lo le lr
  | .cond _ a b, lo, le, lr => loops a lo le lr ++ loops b lo le lr
  | .block id a, lo, le, lr => loops a lo ((id, lo) :: le) lr
  | .loop a, _, le, lr => ⟨a, le, lr⟩ :: loops a (lv a 0 le lr) le lr
  | _, _, _, _ => []
def SumOk (N : Nat) (C : Cx) (nr : List NR) (lp : LP) (i : LI) (S : St → Tr (Ex × St)) : Prop := ∀ (σ : St) (K : Ex × St → Prop), (S σ).sat K → ∃ N', (iter N' (i.f N C nr lp) (i.h nr) σ).sat K
def LpsOk (N : Nat) (C : Cx) (nr : List NR) (lp : LP) (l : List LI) : Prop := ∀ i ∈ l, ∀ S, get lp (keyOf i.le) = some S → SumOk N C nr lp i S

section
variable {P : Program} {w0 : Base} {M0 : Snap}
theorem Sy.post {g : GC} {N N' : St → Prop} {E : Nat → St → Prop} {R : St → Prop} {σ : St} (h : Sy P w0 M0 g N E R σ) (hN : ∀ σ, N σ → ∃ σ', Weaker σ σ' ∧ N' σ') : Sy P w0 M0 g N' E R σ := fun c hc M β a w hd hr => by
  refine wp_mono (h c hc M β a w hd hr) fun e a' w' hq => ?_
  cases e with
  | normal =>
    obtain ⟨hd', σ', M', β', hn, hr'⟩ := hq
    obtain ⟨σ'', hw, hn'⟩ := hN σ' hn
    obtain ⟨M'', β'', hr''⟩ := hw _ _ _ _ _ _ hr'
    exact ⟨hd', σ'', M'', β'', hn', hr''⟩
  | _ => exact hq
theorem runDs_val {C : Cx} {Z : List Nat} : ∀ {l : List GD} {fl : List Rec} {σ : St} {K : St × List Rec → Prop}, (runDs C Z fl l σ).sat K → ∃ p, (runDs C Z fl l σ).sat (· = p) ∧ K p
  | [], fl, σ, K, h => ⟨_, rfl, h⟩
  | o :: rest, fl, σ, K, h => by
    have h1 := Tr.sat_bind h
    unfold stepD at h1
    have h1 := Tr.sat_bind h1
    obtain ⟨r, h2, h3⟩ := Tr.det_val h1
    have h4 := Tr.sat_bind h3
    unfold upd at h4
    cases e : o.g.s with
    | none =>
      rw [e] at h4
      obtain ⟨p, h5, h6⟩ := runDs_val (show (runDs C Z _ rest _).sat K from h4)
      refine ⟨p, ?_, h6⟩
      refine Tr.bind_sat (?_ : (stepD C Z σ o).sat _)
      unfold stepD
      refine Tr.bind_sat (sat_mono h2 fun r' hr' => ?_)
      subst hr'
      unfold upd
      rw [e]
      exact h5
    | some s =>
      rw [e] at h4
      simp only at h4
      split at h4
      · rename_i hs
        obtain ⟨p, h5, h6⟩ := runDs_val (show (runDs C Z _ rest _).sat K from h4)
        refine ⟨p, ?_, h6⟩
        refine Tr.bind_sat (?_ : (stepD C Z σ o).sat _)
        unfold stepD
        refine Tr.bind_sat (sat_mono h2 fun r' hr' => ?_)
        subst hr'
        unfold upd
        rw [e]
        simp only [if_pos hs]
        exact h5
      · exact h4.elim
theorem yT_nil (C : Cx) : ∀ (l : List GD) (rs : List Rec) (σ : St), yT C [] l rs σ = true
  | [], _, _ => rfl
  | _ :: _, [], _ => rfl
  | o :: os, r :: rs, σ => by
    simp only [yT, yT_nil C os rs, Bool.and_true]
    cases r.ch with
    | none => rfl
    | some p => simp only; cases wrOf C σ (o.g.s.getD 0) o.g.op <;> rfl
theorem exec_ok {C : Cx} (hC : CxOk P C) (hm : P.follows .mixedOrders = true) (N : Nat) (nr : List NR) (lp : LP) : ∀ (g : GC) (lo : Nat) (le : List (Nat × Nat)) (lr : Nat), LpsOk N C nr lp (loops g lo le lr) → ∀ (σ : St) (K : Ex × St → Prop), (exec N C nr lp g lo le lr σ).sat K →
    Sy P w0 M0 g (fun σ' => K (.nx, σ')) (fun i σ' => K (.ex i, σ')) (fun σ' => K (.rt, σ')) σ := by
  intro g
  induction g with
  | skip => intro lo le lr _ σ K h; exact Sy.skip h
  | region ops =>
    intro lo le lr _ σ K h
    exact Sy.post (Sy.region hC (Tr.sat_bind h)) fun σ' hk => ⟨_, Weaker.prune lo σ', hk⟩
  | draw ops =>
    intro lo le lr _ σ K h
    refine Sy.weaker (Weaker.frz0 C ops σ) (Sy.post (N := fun σ' => K (.nx, prune lo σ')) ?_ fun σ' hk => ⟨_, Weaker.prune lo σ', hk⟩)
    simp only [exec] at h
    cases hG : isIn C.mu GK with
    | true =>
      rw [hG] at h
      have h := Tr.sat_bind (show (Tr.bind _ _).sat K from h)
      generalize frz0 C ops σ = σ0 at h
      obtain ⟨p, hp1, hp⟩ := runK_val (fun q b hq => by cases hq) h
      split at hp
      · rename_i e
        exact Sy.draw hC hm (Z := []) (preN ops) (preN_ok ops) (sat_mono hp1 fun p' hp' => by
          subst hp'
          exact ⟨e, fun r _ => ⟨by cases r.ch with | none => trivial | some q => exact fun k _ => rfl, by cases r.ch with | none => trivial | some q => exact fun z hz => by cases hz⟩, yT_nil _ _ _ _, hp⟩)
      · split at hp
        · rename_i e
          obtain ⟨h1, h2⟩ := zT_ok (Tr.sat_bind hp)
          rw [Bool.and_eq_true] at e
          obtain ⟨rs, hrs, hp2⟩ := relab_val (zyOf C σ0 (ops.take (preN ops)) (p.2.take (preN ops))) (fl' := []) hp1
          rw [List.nil_append] at hrs
          subst hrs
          refine Sy.draw hC hm (preN ops) (preN_ok ops) (sat_mono hp2 fun p' hp' => ?_)
          rw [List.nil_append] at hp'
          subst hp'
          exact ⟨e.1, h2, e.2, h1⟩
        · exact hp.elim
    | false =>
      rw [hG] at h
      have h := Tr.sat_bind (show (Tr.bind _ _).sat K from h)
      generalize frz0 C ops σ = σ0 at h
      obtain ⟨p, hp1, hp⟩ := runDs_val h
      split at hp
      · rename_i e
        exact Sy.draw hC hm (Z := []) (preN ops) (preN_ok ops) (sat_mono hp1 fun p' hp' => by
          subst hp'
          exact ⟨e, fun r _ => ⟨by cases r.ch with | none => trivial | some q => exact fun k _ => rfl, by cases r.ch with | none => trivial | some q => exact fun z hz => by cases hz⟩, yT_nil _ _ _ _, hp⟩)
      · refine Sy.draw hC hm (preN ops) (preN_ok ops) (sat_mono (Tr.sat_bind hp) fun p' hp' => ?_)
        split at hp'
        · rename_i e
          obtain ⟨h1, h2⟩ := zT_ok (Tr.sat_bind hp')
          rw [Bool.and_eq_true] at e
          exact ⟨e.1, h2, e.2, h1⟩
        · exact hp'.elim
  | seq a b iha ihb =>
    intro lo le lr hl σ K h
    refine Sy.seq (Sy.mono (iha _ le lr (fun i hi => hl i (List.mem_append_left _ hi)) σ _ (Tr.sat_bind h)) (fun σ' hk => ihb lo le lr (fun i hi => hl i (List.mem_append_right _ hi)) σ' K hk) (fun i σ' hk => hk) (fun σ' hk => hk))
  | cond c a b iha ihb =>
    intro lo le lr hl σ K h
    simp only [exec] at h
    split at h
    · rename_i t ht
      cases t with
      | true => exact Sy.cond (b := true) (by rw [ht]; rfl) (fun _ => iha lo le lr (fun i hi => hl i (List.mem_append_left _ hi)) σ K h) (fun e => by cases e)
      | false => exact Sy.cond (b := false) (by rw [ht]; rfl) (fun e => by cases e) (fun _ => ihb lo le lr (fun i hi => hl i (List.mem_append_right _ hi)) σ K h)
    · rename_i t ht
      refine Sy.cond (b := t) (by rw [ht]; rfl) (fun e => ?_) (fun e => ?_)
      · subst e
        exact Sy.weaker (Weaker.knowB ht) (iha lo le lr (fun i hi => hl i (List.mem_append_left _ hi)) _ K (h.1 rfl))
      · subst e
        exact Sy.weaker (Weaker.knowB ht) (ihb lo le lr (fun i hi => hl i (List.mem_append_right _ hi)) _ K (h.2 rfl))
    · exact h.elim
  | block id a iha =>
    intro lo le lr hl σ K h
    refine Sy.block (Sy.mono (iha lo _ lr hl σ _ (Tr.sat_bind h)) (fun σ' hk => hk) (fun i σ' hk => ?_) (fun σ' hk => hk))
    have hk : K (if i = id then (Ex.nx, σ') else (Ex.ex i, σ')) := hk
    split
    · rename_i e; rw [if_pos e] at hk; exact hk
    · rename_i e; rw [if_neg e] at hk; exact hk
  | loop a iha =>
    intro lo le lr hl σ K h
    simp only [exec] at h
    have h' : ∃ N', (iter N' (LI.f ⟨a, le, lr⟩ N C nr lp) (LI.h ⟨a, le, lr⟩ nr) (headS nr (lv a 0 le lr) σ)).sat K := by
      split at h
      · rename_i S hS
        exact hl ⟨a, le, lr⟩ (List.mem_cons_self ..) S hS _ K h
      · exact ⟨N, h⟩
    obtain ⟨N', h'⟩ := h'
    refine Sy.weaker (Weaker.headS nr (lv a 0 le lr) σ) ?_
    refine Sy.loop (n := N') (fun n σ' => (iter n (LI.f ⟨a, le, lr⟩ N C nr lp) (LI.h ⟨a, le, lr⟩ nr) σ').sat K) h' fun n σ' hI => ?_
    cases n with
    | zero => exact hI.elim
    | succ n =>
      refine Sy.mono (iha _ le lr (fun i hi => hl i (List.mem_cons_of_mem _ hi)) σ' _ (Tr.sat_bind hI)) (fun σ'' hk => ?_) (fun i σ'' hk => hk) (fun σ'' hk => hk)
      exact ⟨n, _, Nat.lt_succ_self n, Weaker.headS nr (lv a 0 le lr) σ'', hk⟩
  | exit id => intro lo le lr _ σ K h; exact Sy.weaker ((Weaker.prune _ σ).trans (Weaker.gcO _)) (Sy.exit h)
  | ret => intro lo le lr _ σ K h; exact Sy.weaker ((Weaker.prune _ σ).trans (Weaker.gcO _)) (Sy.ret h)
end

/-! ### what one says, the other says too -/
structure Gives {α : Type} (t s : Tr α) : Prop where
  out : ∀ K : α → Prop, s.sat K → t.sat K
section
variable {α β : Type} {t e s : Tr α}
theorem Gives.refl (t : Tr α) : Gives t t := ⟨fun _ h => h⟩
theorem Gives.trans {u : Tr α} (h : Gives t e) (h' : Gives e u) : Gives t u := ⟨fun K hk => h.out K (h'.out K hk)⟩
theorem Gives.of_eq {t' : Tr α} (h : t = t') (h' : Gives t' s) : Gives t s := h ▸ h'
theorem Gives.to_eq {s' : Tr α} (h : s = s') (h' : Gives t s') : Gives t s := h ▸ h'
theorem Gives.ite {b : Bool} (h1 : b = true → Gives t s) (h2 : b = false → Gives e s) : Gives (.ite b t e) s := ⟨fun K hk => ⟨fun hb => (h1 hb).out K hk, fun hb => (h2 hb).out K hk⟩⟩
theorem Gives.tt {b : Bool} (hb : b = true) (h : Gives t s) : Gives (.ite b t e) s := .ite (fun _ => h) (fun h' => by rw [hb] at h'; cases h')
theorem Gives.ff {b : Bool} (hb : b = false) (h : Gives e s) : Gives (.ite b t e) s := .ite (fun h' => by rw [hb] at h'; cases h') (fun _ => h)
theorem Gives.need {b : Bool} (hb : b = true) (h : Gives t s) : Gives (.need b t) s := .tt hb h
theorem Gives.both (h1 : Gives t s) (h2 : Gives e s) : Gives (.both t e) s := ⟨fun K hk => ⟨h1.out K hk, h2.out K hk⟩⟩
theorem Gives.bind {t : Tr α} {a : α} {f : α → Tr β} {s : Tr β} (h1 : Gives t (.ret a)) (h2 : Gives (f a) s) : Gives (t.bind f) s := ⟨fun K hk => Tr.bind_sat (h1.out _ (h2.out K hk))⟩
theorem Gives.bind' {t t' : Tr α} {f : α → Tr β} {s : Tr β} (h1 : Gives t t') (h2 : Gives (t'.bind f) s) : Gives (t.bind f) s := ⟨fun K hk => Tr.bind_sat (h1.out _ (Tr.sat_bind (h2.out K hk)))⟩
/-- the same choice on both sides -/
theorem Gives.ites {b : Bool} {s1 s2 : Tr α} (h1 : b = true → Gives t s1) (h2 : b = false → Gives e s2) : Gives (.ite b t e) (.ite b s1 s2) := ⟨fun K hk => ⟨fun hb => (h1 hb).out K (hk.1 hb), fun hb => (h2 hb).out K (hk.2 hb)⟩⟩
/-- a choice that the other makes -/
theorem Gives.rite {b : Bool} {s1 s2 : Tr α} (h1 : b = true → Gives t s1) (h2 : b = false → Gives t s2) : Gives t (.ite b s1 s2) := ⟨fun K hk => by
  cases b
  · exact (h2 rfl).out K (hk.2 rfl)
  · exact (h1 rfl).out K (hk.1 rfl)⟩
theorem Gives.fail : Gives t .fail := ⟨fun _ h => h.elim⟩
theorem Gives.rneed {b : Bool} {s1 : Tr α} (h1 : b = true → Gives t s1) : Gives t (.need b s1) := .rite h1 (fun _ => .fail)
end

/-! ### loops -/
section
variable {f : St → Tr (Ex × St)} {h : St → St}
theorem iter_mono {K : Ex × St → Prop} : ∀ {n m : Nat} {σ : St}, n ≤ m → (iter n f h σ).sat K → (iter m f h σ).sat K := by
  intro n
  induction n with
  | zero => intro m σ _ hs; exact hs.elim
  | succ n ih =>
    intro m σ hle hs
    obtain ⟨m, rfl⟩ : ∃ k, m = k + 1 := ⟨m - 1, by omega⟩
    refine Tr.bind_sat (sat_mono (Tr.sat_bind hs) fun r hr => ?_)
    obtain ⟨e, σ'⟩ := r
    cases e with
    | nx => exact ih (by omega) hr
    | ex i => exact hr
    | rt => exact hr
/-- what a round that ends goes on to -/
def again (n : Nat) (f : St → Tr (Ex × St)) (h : St → St) : Ex × St → Tr (Ex × St)
  | (.nx, σ) => iter n f h (h σ)
  | r => .ret r
theorem iter_ind {V : Type} (st : V → St) (μ : V → Nat) (R : V → Tr (Ex × St))
    (step : ∀ v, (∀ v', μ v' < μ v → Gives (iter (μ v) f h (st v')) (R v')) → Gives ((f (st v)).bind (again (μ v) f h)) (R v)) : ∀ v, Gives (iter (μ v + 1) f h (st v)) (R v) := by
  have key : ∀ n v, μ v ≤ n → Gives (iter (μ v + 1) f h (st v)) (R v) := by
    intro n
    induction n with
    | zero =>
      intro v hv
      refine ⟨fun K hk => ?_⟩
      have := (step v (fun v' hv' => by omega)).out K hk
      refine Tr.bind_sat (sat_mono (Tr.sat_bind this) fun r hr => ?_)
      obtain ⟨e, σ'⟩ := r
      cases e <;> exact hr
    | succ n ih =>
      intro v hv
      refine ⟨fun K hk => ?_⟩
      have := (step v (fun v' hv' => ⟨fun K' hk' => iter_mono (by omega) ((ih v' (by omega)).out K' hk')⟩)).out K hk
      refine Tr.bind_sat (sat_mono (Tr.sat_bind this) fun r hr => ?_)
      obtain ⟨e, σ'⟩ := r
      cases e <;> exact hr
  exact fun v => key (μ v) v (Nat.le_refl _)
end
/-- a loop's sum: at the states of that form, what is said there; at others, nothing -/
theorem SumOk.of {N : Nat} {C : Cx} {nr : List NR} {lp : LP} {i : LI} {S : St → Tr (Ex × St)} {V : Type} (st : V → St) (μ : V → Nat) (R : V → Tr (Ex × St))
    (hS : ∀ σ, S σ = .fail ∨ ∃ v, σ = st v ∧ S σ = R v)
    (step : ∀ v, (∀ v', μ v' < μ v → Gives (iter (μ v) (i.f N C nr lp) (i.h nr) (st v')) (R v')) → Gives ((i.f N C nr lp (st v)).bind (again (μ v) (i.f N C nr lp) (i.h nr))) (R v)) : SumOk N C nr lp i S := fun σ K hk => by
  rcases hS σ with e | ⟨v, rfl, e⟩
  · rw [e] at hk; exact hk.elim
  · rw [e] at hk
    exact ⟨_, (iter_ind st μ R step v).out K hk⟩
end Go.Proofs.YtdngaaploooceaaDoor.Sy

/- The calculus, twenty-fifth part: what a function answers; contracts out of its text. -/
namespace Go.Proofs.YtdngaaploooceaaDoor.Sy
open Go.RowKit Kit

def resSV (tbl : Tbl) (σ : St) : ResultVar → Tr SV
  | .tmp t => .ret (ev σ (.tmp t))
  | .cell t ty => (doLoad tbl σ ty (.tmp t)).bind fun r => .ret r.1
def resSVs (tbl : Tbl) (σ : St) : List ResultVar → Tr (List SV)
  | [] => .ret []
  | r :: rs => (resSV tbl σ r).bind fun x => (resSVs tbl σ rs).bind fun l => .ret (x :: l)
def evs : List SV → Option (List EV)
  | [] => some []
  | .e x :: l => (evs l).map (x :: ·)
  | .tup _ :: _ => none
def packS : List SV → Tr SV
  | [x] => .ret x
  | l => match evs l with | some es => .ret (.tup es) | none => .fail
def ghosts : List (Nat × SV) → List (Nat × SV)
  | [] => []
  | (s, x) :: r => bif Nat.ble GH s then (s, x) :: ghosts r else ghosts r
/-- what is left of a state when its function has answered -/
def leftS (σ : St) (x : SV) : St := ⟨0, ghosts σ.env, keepO (reach σ.objs 400 (x.ids ++ (ghosts σ.env).flatMap fun p => p.2.ids) []) σ.objs⟩
def ansS (tbl : Tbl) (rs : List ResultVar) (σ : St) : Tr (SV × St) := (resSVs tbl σ rs).bind fun l => (packS l).bind fun x => .ret (x.unk, leftS σ x.unk)
/-- rows that are answered, as data: where the function is marked so -/
def FA : Nat := 999999
def resIds (σ : St) : List ResultVar → List Nat
  | [] => []
  | .tmp t :: r => (ev σ (.tmp t)).ids ++ resIds σ r
  | .cell c _ :: r => (match ev σ (.tmp c) with | .e (.c (.np i _)) => (match get σ.objs i with | some o => o.ids | none => []) | _ => []) ++ resIds σ r
def frzA (C : Cx) (rs : List ResultVar) (σ : St) : St := bif isIn C.mu FA then frzIds (resIds σ rs) σ else σ
theorem Weaker.frzA (C : Cx) (rs : List ResultVar) (σ : St) : Weaker σ (frzA C rs σ) := by
  unfold Sy.frzA
  cases isIn C.mu FA with
  | true => exact Weaker.frz _ _
  | false => exact Weaker.refl _
def fin (C : Cx) (rs : List ResultVar) : Ex × St → Tr (SV × St)
  | (.ex _, _) => .fail
  | (_, σ) => ansS C.tbl rs (frzA C rs σ)
def slotR : List ResultVar → Nat
  | [] => 0
  | .tmp t :: r => mset (slotR r) t
  | .cell t _ :: r => mset (slotR r) t
/-- a function's text -/
structure Fn where
  g : GC
  rs : List ResultVar
  n : Nat
def Fn.loops (q : Fn) : List LI := Sy.loops q.g (slotR q.rs) [] (slotR q.rs)
def Fn.go (q : Fn) (N : Nat) (C : Cx) (nr : List NR) (lp : LP) (xs : List SV) (τ : St) : Tr (SV × St) :=
  (exec N C nr lp q.g (slotR q.rs) [] (slotR q.rs) ⟨q.n, envOf 0 xs ++ τ.env, τ.objs⟩).bind (fin C q.rs)
where envOf : Nat → List SV → List (Nat × SV)
  | _, [] => []
  | k, x :: xs => (k, x) :: envOf (k + 1) xs

section
variable {P : Program} {w0 : Base} {w : World} {M0 M : Snap} {β : Plc} {σ : St} {a : Act} {tbl : Tbl}
def resRun (tmps : Array Value) : ResultVar → Sem Value
  | .tmp t => pure (tmps.getD t undef)
  | .cell c t => do loadVar t (← asAddr (tmps.getD c undef))
theorem resSV_ok (ht : TblOk P tbl) (h : Rel w0 M0 M β σ a.tmps w) {r : ResultVar} {K : SV → Prop} (hk : (resSV tbl σ r).sat K) :
    ∃ x v, K x ∧ SVR M β x v ∧ (resRun a.tmps r).run P w = .ok v w := by
  cases r with
  | tmp t => exact ⟨_, _, hk, ev_ok h (.tmp t), rfl⟩
  | cell c t =>
    obtain ⟨y, v, ad, hk', e, hrun, hv⟩ := doLoad_run ht h (Tr.sat_bind hk)
    refine ⟨_, v, hk', hv, ?_⟩
    have e' : a.tmps.getD c undef = .pointer (some ad) := e
    simp [resRun, e', asAddr, hrun]
theorem resSVs_ok (ht : TblOk P tbl) (h : Rel w0 M0 M β σ a.tmps w) : ∀ (rs : List ResultVar) {K : List SV → Prop}, (resSVs tbl σ rs).sat K →
    ∃ l vs, K l ∧ SVRs M β l vs ∧ (rs.mapM (resRun a.tmps)).run P w = .ok vs w := by
  intro rs
  induction rs with
  | nil => intro K hk; exact ⟨[], [], hk, .nil, rfl⟩
  | cons r rs ih =>
    intro K hk
    obtain ⟨x, v, hk1, hr, hrun⟩ := resSV_ok ht h (Tr.sat_bind hk)
    obtain ⟨l, vs, hk2, hrs, hruns⟩ := ih (Tr.sat_bind hk1)
    refine ⟨x :: l, v :: vs, hk2, .cons hr hrs, ?_⟩
    simp only [List.mapM_cons, Sem.run_bind, hrun, Result.andThen_ok, hruns, Sem.run_pure]
theorem evs_ok {l : List SV} {vs : List Value} (h : SVRs M β l vs) : ∀ {es : List EV}, evs l = some es → EVs M β es vs := by
  induction h with
  | nil => intro es he; cases he; exact .nil
  | @cons x u xs us h1 _ ih =>
    intro es he
    cases x with
    | e y =>
      simp only [evs] at he
      cases e : evs xs with
      | none => simp [e] at he
      | some r => simp [e] at he; subst he; exact .cons h1 (ih e)
    | tup => cases he
theorem get_ghosts : ∀ {env : List (Nat × SV)} {s : Nat} {x : SV}, get (ghosts env) s = some x → GH ≤ s ∧ get env s = some x
  | [], _, _, h => by cases h
  | (t, y) :: r, s, x, h => by
    simp only [ghosts] at h
    cases hb : Nat.ble GH t with
    | true =>
      simp only [hb, cond_true, get] at h ⊢
      split at h
      · rename_i e; subst e; rw [if_pos rfl]; exact ⟨Nat.le_of_ble_eq_true hb, h⟩
      · rename_i e; rw [if_neg e]; exact get_ghosts h
    | false =>
      simp only [hb, cond_false] at h
      obtain ⟨h1, h2⟩ := get_ghosts h
      refine ⟨h1, ?_⟩
      simp only [get]
      split
      · rename_i e; subst e
        have := Nat.ble_eq_true_of_le h1
        rw [hb] at this; cases this
      · exact h2
theorem Rel.left {tm : Array Value} (h : Rel w0 M0 M β σ tm w) (x : SV) : Rel w0 M0 M β (leftS σ x) #[] w :=
  { h with
    size := Nat.zero_le _
    small := Nat.zero_le _
    env := fun s y hs => by
      obtain ⟨h1, h2⟩ := get_ghosts hs
      obtain ⟨v, hv, hr⟩ := h.env s y h2
      refine ⟨v, ?_, hr⟩
      unfold look at hv ⊢
      rw [if_neg (by omega)] at hv ⊢
      exact hv
    objs := fun i o ho => h.objs i o (mem_get_keepO ho) }
theorem ansS_ok (ht : TblOk P tbl) {fn : Func} {rs : List ResultVar} (hrs : fn.results = rs.toArray) (h : Rel w0 M0 M β σ a.tmps w) {K : SV × St → Prop} (hk : (ansS tbl rs σ).sat K) :
    ∃ x τ v, K (x, τ) ∧ (results fn a.tmps).run P w = .ok v w ∧ SVR M β x v ∧ Rel w0 M0 M β τ #[] w := by
  obtain ⟨l, vs, hk, hl, hrun⟩ := resSVs_ok ht h rs (Tr.sat_bind hk)
  have hk := Tr.sat_bind hk
  have hres : (results fn a.tmps).run P w = .ok (if h : vs.length = 1 then vs[0] else .tuple vs.toArray) w := by
    have e0 : results fn a.tmps = (do let vs ← fn.results.mapM (resRun a.tmps); pure (if h : vs.size = 1 then vs[0] else .tuple vs)) := by
      unfold results
      congr 1
    rw [e0, hrs]
    simp only [Sem.run_bind, List.mapM_toArray, Sem.run_map, hrun, Result.andThen_ok, Sem.run_pure]
    congr 1
  rw [hres]
  unfold packS at hk
  split at hk
  · cases hl with
    | cons h1 h2 => cases h2; exact ⟨_, _, _, hk, rfl, h1.unk, h.left _⟩
  · rename_i hne
    split at hk
    · rename_i es hes
      have hn : vs.length ≠ 1 := by
        intro e
        cases hl with
        | nil => simp at e
        | cons h1 h2 => cases h2 with
          | nil => exact hne _ rfl
          | cons => simp at e
      refine ⟨_, _, _, hk, rfl, SVR.unk ?_, h.left _⟩
      rw [dif_neg hn]
      exact ⟨_, rfl, by simpa using evs_ok hl hes⟩
    · exact hk.elim
theorem get_envOf {l : List SV} {vs : List Value} (h : SVRs M β l vs) : ∀ (k s : Nat) (x : SV), get (Fn.go.envOf k l) s = some x → k ≤ s ∧ ∃ v, vs[s - k]? = some v ∧ SVR M β x v := by
  induction h with
  | nil => intro k s x hx; cases hx
  | @cons y u ys us h1 _ ih =>
    intro k s x hx
    simp only [Fn.go.envOf, get] at hx
    split at hx
    · rename_i e; subst e; cases hx; exact ⟨Nat.le_refl _, u, by simp, h1⟩
    · rename_i hne
      obtain ⟨hle, v, hv, hr⟩ := ih (k + 1) s x hx
      refine ⟨by omega, v, ?_, hr⟩
      rw [show s - k = (s - (k + 1)) + 1 by omega, List.getElem?_cons_succ]; exact hv
theorem get_append {α : Type} {l r : List (Nat × α)} {s : Nat} {x : α} (h : get (l ++ r) s = some x) : get l s = some x ∨ get r s = some x := by
  induction l with
  | nil => exact .inr h
  | cons p l ih =>
    obtain ⟨t, y⟩ := p
    simp only [List.cons_append, get] at h ⊢
    split at h
    · rename_i e; rw [if_pos e]; exact .inl h
    · rename_i e; rw [if_neg e]; exact ih h
theorem entry_rel {b : Base} {τ : St} {xs : List SV} {vs : List Value} {m n : Nat} (hn : m = n) (hle : n ≤ GH) (hlen : vs.length ≤ n) (h : Rel b M M β τ #[] b.toWorld) (hxs : SVRs M β xs vs) :
    Rel b M M β ⟨n, Fn.go.envOf 0 xs ++ τ.env, τ.objs⟩ (vs.toArray ++ Array.replicate (m - vs.toArray.size) undef) b.toWorld := by
  subst hn
  refine { h with size := by simp; omega, small := hle, env := fun s x hx => ?_ }
  rcases get_append hx with hx | hx
  · obtain ⟨_, v, hv, hr⟩ := get_envOf hxs 0 s x hx
    refine ⟨v, ?_, hr⟩
    simp only [Nat.sub_zero] at hv
    have hlt : s < vs.length := (List.getElem?_eq_some_iff.1 hv).1
    unfold look
    rw [if_pos (by omega), Array.getElem?_append_left (by simpa using hlt)]
    simpa using hv
  · obtain ⟨v, hv, hr⟩ := h.env s x hx
    refine ⟨v, ?_, hr⟩
    unfold look at hv ⊢
    split at hv
    · simp at hv
    · rename_i e; rw [if_neg e]; exact hv
/-- the facts of a function's text -/
structure Is (P : Program) (f : Nat) (q : Fn) : Prop where
  out : ∃ fn c, P.funcs[f]? = some fn ∧ (fn.name == "runtime.NumGoroutine") = false ∧ fn.body = some c ∧ fn.results = q.rs.toArray ∧ fn.ntmps = q.n ∧ q.n ≤ GH ∧ comp c = some q.g
theorem SVRs.length {l : List SV} {vs : List Value} (h : SVRs M β l vs) : vs.length = l.length := by
  induction h with
  | nil => rfl
  | cons _ _ ih => simp [ih]
theorem CtrOk.of_exec {f : Nat} {F : Ctr} {C : Cx} (hC : CxOk P C) (hm : P.follows .mixedOrders = true) {q : Fn} (hI : Is P f q) {N : Nat} {nr : List NR} {lp : LP} (hlp : LpsOk N C nr lp q.loops)
    (h : ∀ xs τ, F xs τ = .fail ∨ ∃ ys, ys.length ≤ q.n ∧ ∀ M β vs, SVRs M β xs vs → SVRs M β ys vs ∧ ∀ K, (F xs τ).sat K → (q.go N C nr lp ys τ).sat K) : CtrOk P f F := by
  obtain ⟨fn, c, hf, hname, hb, hrs, hn, hle, hg⟩ := hI.out
  refine ⟨⟨fn, c, hf, hname, hb⟩, fun b M β τ xs vs hrel hxs K hk => ?_⟩
  rcases h xs τ with e | ⟨ys, hlen, hy⟩
  · rw [e] at hk; exact hk.elim
  · obtain ⟨hys, hgo⟩ := hy M β vs hxs
    have hsat := Tr.sat_bind (hgo K hk)
    have hsy := exec_ok (w0 := b) (M0 := M) hC hm N nr lp q.g _ _ _ hlp _ _ hsat
    refine (calls_of_wp hf hb (wp_mono (hsy c hg M β _ b.toWorld rfl ?_) fun e a' w' hq => ?_))
    · exact entry_rel hn hle (by rw [hys.length]; exact hlen) hrel hys
    · cases e with
      | normal =>
        obtain ⟨hd, σ, M0', β0, hk1, hr0⟩ := hq
        obtain ⟨M1, β1, hr⟩ := Weaker.frzA C q.rs σ _ _ _ _ _ _ hr0
        obtain ⟨x, τ', v, hx, hrun, hv, hA⟩ := ansS_ok hC.ht hrs hr hk1
        exact ⟨hd, v, hrun, x, τ', v, M1, β1, hx, rfl, hv, hA⟩
      | ret =>
        obtain ⟨hd, σ, M0', β0, hk1, hr0⟩ := hq
        obtain ⟨M1, β1, hr⟩ := Weaker.frzA C q.rs σ _ _ _ _ _ _ hr0
        obtain ⟨x, τ', v, hx, hrun, hv, hA⟩ := ansS_ok hC.ht hrs hr hk1
        exact ⟨hd, v, hrun, x, τ', v, M1, β1, hx, rfl, hv, hA⟩
      | exit i => obtain ⟨_, _, _, _, h, _⟩ := hq; exact h.elim
      | _ => exact hq.elim
end

/-! ### what arguments are -/
/-- no slice in it is longer than slices may be -/
def Bd : (t : Ty) → t.El → Prop
  | .sl t, l => l.length ≤ 9223372036854775807 ∧ ∀ x ∈ l, Bd t x
  | .pair a b, x => Bd a x.1 ∧ Bd b x.2
  | _, _ => True
theorem Bd.of {M : Snap} : ∀ {t : Ty} {x : t.El} {us : List Value}, Cells M (split t x) us → Bd t x := by
  intro t
  induction t with
  | sl t ih =>
    intro l us h
    cases h with
    | cons h1 _ =>
      obtain ⟨A, n, c, rfl⟩ := h1.slice
      obtain ⟨hn, hc, hm, xs, hf, _⟩ := Flat.of_dr h1
      refine ⟨?_, fun x hx => ?_⟩
      · have : maxLen ≤ 9223372036854775807 := by decide
        omega
      · obtain ⟨k, hk, rfl⟩ := List.getElem_of_mem hx
        have := hf.at_ (rows_at t hk)
        have h3 := ih this
        simp only [List.getD, List.getElem?_eq_getElem hk, Option.getD_some] at h3
        exact h3
  | pair a b iha ihb =>
    intro x us h
    have h' : Cells M (split a x.1 ++ split b x.2) us := h
    have t1 := h'.take a.sz
    have t2 := h'.drop a.sz
    rw [← split_len a x.1, List.take_left, split_len] at t1
    rw [← split_len a x.1, List.drop_left, split_len] at t2
    exact ⟨iha t1, ihb t2⟩
  | _ => intro x us _; trivial
structure Args (α : Type) where
  n : Nat
  sv : α → List SV
  de : List SV → Option α
  Bd : α → Prop
  len : ∀ a, (sv a).length = n
  ok : ∀ (M : Snap) (β : Plc) (xs : List SV) (vs : List Value) (a : α), de xs = some a → SVRs M β xs vs → SVRs M β (sv a) vs ∧ Bd a
structure Arg (α : Type) where
  sv : α → SV
  de : SV → Option α
  Bd : α → Prop
  ok : ∀ (M : Snap) (β : Plc) (x : SV) (v : Value) (a : α), de x = some a → SVR M β x v → SVR M β (sv a) v ∧ Bd a
def Args.nil : Args Unit where
  n := 0
  sv _ := []
  de | [] => some () | _ => none
  Bd _ := True
  len _ := rfl
  ok M β xs vs a h hs := by
    split at h
    · exact ⟨hs, trivial⟩
    · cases h
def Args.cons {α β : Type} (A : Arg α) (B : Args β) : Args (α × β) where
  n := B.n + 1
  sv a := A.sv a.1 :: B.sv a.2
  de
    | x :: xs => match A.de x, B.de xs with | some a, some b => some (a, b) | _, _ => none
    | [] => none
  Bd a := A.Bd a.1 ∧ B.Bd a.2
  len a := by simp [B.len]
  ok M β' xs vs a h hs := by
    split at h
    · split at h
      · rename_i h1 h2
        cases h
        cases hs with
        | cons h3 h4 => exact ⟨.cons (A.ok M β' _ _ _ h1 h3).1 (B.ok M β' _ _ _ h2 h4).1, (A.ok M β' _ _ _ h1 h3).2, (B.ok M β' _ _ _ h2 h4).2⟩
      · cases h
    · cases h
def hd : List D → D
  | d :: _ => d
  | [] => .v undef
/-- a value of one cell -/
def aVal (t : Ty) : Arg t.El where
  sv a := .e (.c (.d (hd (split t a))))
  de x := if t.sz = 1 then pkC false t x else none
  Bd := Bd t
  ok M β x v a h hx := by
    split at h
    · rename_i h1
      have := (pkC_ok hx h).one
      refine ⟨?_, Bd.of this⟩
      have hl := split_len t a
      rw [h1] at hl
      match e : split t a, hl with
      | [d], _ =>
        rw [e] at this
        cases this with
        | cons h2 _ => exact h2
    · cases h
/-- a struct -/
def aAgg (t : Ty) : Arg t.El where
  sv a := .e (.agg ((split t a).map .d))
  de x := pkC true t x
  Bd := Bd t
  ok M β x v a h hx := by
    obtain ⟨us, e, hc⟩ := (pkC_ok hx h).many
    exact ⟨⟨us, e, .ofCells hc⟩, Bd.of hc⟩
/-- a pointer to cells that are only read -/
def aPtr (t : Ty) : Arg t.El where
  sv a := .e (.c (.dp (split t a)))
  de
    | .e (.c (.dp l)) => join t l
    | _ => none
  Bd := Bd t
  ok M β x v a h hx := by
    split at h
    · obtain ⟨ad, us, e, hc, hm⟩ := hx
      have := join_ok t h hc
      exact ⟨⟨ad, us, e, this, hm⟩, Bd.of this⟩
    · cases h

abbrev Ans := Tr (SV × List (Nat × Ob))
/-- a function that is lent nothing -/
def ctr {α : Type} (A : Args α) (f : α → Ans) : Ctr := fun xs τ =>
  match τ.env, τ.objs with
  | [], [] =>
    match A.de xs with
    | some a => (f a).bind fun r => .ret (r.1, ⟨0, [], r.2⟩)
    | none => .fail
  | _, _ => .fail
theorem CtrOk.mk {P : Program} {f : Nat} {C : Cx} (hC : CxOk P C) (hm : P.follows .mixedOrders = true) {q : Fn} (hI : Is P f q) {N : Nat} {nr : List NR} {lp : LP} (hlp : LpsOk N C nr lp q.loops) {α : Type} {A : Args α} {F : α → Ans} (hn : A.n ≤ q.n)
    (h : ∀ a, A.Bd a → Gives (q.go N C nr lp (A.sv a) St.nil) ((F a).bind fun r => .ret (r.1, ⟨0, [], r.2⟩))) : CtrOk P f (ctr A F) :=
  .of_exec hC hm hI hlp fun xs τ => by
    obtain ⟨tn, te, to⟩ := τ
    unfold ctr
    cases te with
    | cons => exact .inl rfl
    | nil =>
      cases to with
      | cons => exact .inl rfl
      | nil =>
        cases e : A.de xs with
        | none => exact .inl (by simp only [e])
        | some a =>
          refine .inr ⟨A.sv a, by rw [A.len]; exact hn, fun M β vs hs => ⟨(A.ok M β xs vs a e hs).1, fun K hk => ?_⟩⟩
          exact (h a (A.ok M β xs vs a e hs).2).out K hk

/-! ### the loops of a text -/
theorem LpsOk.none {N : Nat} {C : Cx} {nr : List NR} {l : List LI} : LpsOk N C nr [] l := fun _ _ _ h => by cases h
def distinct : List Nat → Bool
  | [] => true
  | i :: r => !isIn r i && distinct r
def Fn.at (q : Fn) (k : Nat) : LI := (q.loops.find? fun i => keyOf i.le == k).getD ⟨.skip, [], 0⟩
theorem find_of {l : List LI} (h : distinct (l.map fun i => keyOf i.le) = true) {i : LI} (hi : i ∈ l) : l.find? (fun j => keyOf j.le == keyOf i.le) = some i := by
  induction l with
  | nil => cases hi
  | cons j r ih =>
    simp only [List.map_cons, distinct, Bool.and_eq_true, Bool.not_eq_true'] at h
    rcases List.mem_cons.1 hi with rfl | hi
    · simp
    · have hne : keyOf j.le ≠ keyOf i.le := fun e => by
        have : isIn (r.map fun i => keyOf i.le) (keyOf j.le) = true := isIn_of_mem (by rw [e]; exact List.mem_map_of_mem hi)
        rw [h.1] at this; cases this
      rw [List.find?_cons_of_neg (by simpa using hne)]
      exact ih h.2 hi
theorem LpsOk.all {N : Nat} {C : Cx} {nr : List NR} {lp : LP} {q : Fn} (hd : distinct (q.loops.map fun i => keyOf i.le) = true) (h : ∀ p ∈ lp, SumOk N C nr lp (q.at p.1) p.2) : LpsOk N C nr lp q.loops := fun i hi S hS => by
  have hmem : ∀ {l : LP}, get l (keyOf i.le) = some S → (keyOf i.le, S) ∈ l := fun {l} => by
    induction l with
    | nil => intro h; cases h
    | cons p r ih =>
      intro h
      simp only [get] at h
      split at h
      · rename_i e; cases h; rw [← e]; exact List.mem_cons_self ..
      · exact List.mem_cons_of_mem _ (ih h)
  have := h _ (hmem hS)
  have e : q.at (keyOf i.le) = i := by unfold Fn.at; rw [find_of hd hi]; rfl
  rwa [e] at this
end Go.Proofs.YtdngaaploooceaaDoor.Sy

/- The calculus, twenty-sixth part: the program's functions. -/
namespace Go.Proofs.YtdngaaploooceaaDoor.Sy
open Go.RowKit Kit Go.Proofs

def mkFn (fn : Func) : Fn :=
  match fn.body with
  | some c => ⟨(comp c).getD .skip, fn.results.toList, fn.ntmps⟩
  | none => ⟨.skip, [], 0⟩
def fnOk (fn : Func) : Bool :=
  match fn.body with
  | some c => (comp c).isSome && Nat.ble fn.ntmps GH && !(fn.name == "runtime.NumGoroutine")
  | none => false
theorem Is.of {P : Program} {f : Nat} {fn : Func} (h : P.funcs[f]? = some fn) (hk : fnOk fn = true) : Is P f (mkFn fn) := by
  unfold fnOk at hk
  unfold mkFn
  split at hk
  · rename_i c hc
    simp only [Bool.and_eq_true, Bool.not_eq_true'] at hk
    obtain ⟨⟨h1, h2⟩, h3⟩ := hk
    obtain ⟨g, hg⟩ := Option.isSome_iff_exists.1 h1
    exact ⟨⟨fn, c, h, h3, hc, by simp, rfl, Nat.le_of_ble_eq_true h2, by simp [hg]⟩⟩
  · cases hk
theorem mixed : Tryd.prog.follows .mixedOrders = true := by kernel_rfl
abbrev tI : Ty := .int .i64
abbrev tU : Ty := .int .u8
abbrev tB : Ty := .sl tU
abbrev rI (n : Int) : SV := .e (.c (.d (.v (.int .i64 n))))
abbrev rU (n : Int) : SV := .e (.c (.d (.v (.int .u8 n))))
abbrev rB (b : Bool) : SV := .e (.c (.d (.v (.bool b))))
abbrev rS (s : ByteArray) : SV := .e (.c (.d (.v (.string s))))
abbrev rL (t : Ty) (l : List t.El) : SV := .e (.c (.d (.sl t l)))
def C0 : Cx := ⟨T, [], [], [], []⟩
theorem C0_ok : CxOk Tryd.prog C0 := ⟨T_ok, .nil _, .nil _, .nil _⟩
end Go.Proofs.YtdngaaploooceaaDoor.Sy

/- The calculus, twenty-seventh part: the forms of states at a loop's head. -/
namespace Go.Proofs.YtdngaaploooceaaDoor.Sy
open Go.RowKit Kit Go.Proofs

/-- a slot: whatever it holds; a datum of a kind; that very value -/
inductive SP where
  | any
  | dat (t : Ty)
  | agg (t : Ty)
  | ptr (t : Ty)
  | np (i o : Nat)
  | row (i : Nat)
  | mp (i : Nat)
  | nil
  | nilp
@[reducible] def SP.V : SP → Type
  | .any => SV
  | .dat t => t.El
  | .agg t => t.El
  | .ptr t => t.El
  | _ => Unit
def SP.sv : (p : SP) → p.V → SV
  | .any, x => x
  | .dat t, x => .e (.c (.d (hd (split t x))))
  | .agg t, x => .e (.agg ((split t x).map .d))
  | .ptr t, x => .e (.c (.dp (split t x)))
  | .np i o, _ => .e (.c (.np i o))
  | .row i, _ => .e (.c (.row i))
  | .mp i, _ => .e (.c (.mp i))
  | .nil, _ => .e (.c .nil)
  | .nilp, _ => .e (.c .nilp)
/-- a cell of a kind, just so -/
def unD : (t : Ty) → D → Option t.El
  | .int k, .v (.int k' n) => if k' = k then some n else none
  | .bool, .v (.bool b) => some b
  | .str, .v (.string s) => some s
  | .sl t, .sl t' l => if h : t' = t then some (h ▸ l) else none
  | _, _ => none
theorem unD_ok : ∀ {t : Ty} {d : D} {x : t.El}, unD t d = some x → d = hd (split t x) := by
  intro t d x h
  cases t with
  | int k =>
    cases d with
    | v u => cases u <;> simp only [unD] at h <;> first | (cases h; done) | (split at h <;> cases h; rename_i e; subst e; rfl)
    | sl => cases h
  | bool =>
    cases d with
    | v u => cases u <;> simp only [unD] at h <;> cases h; rfl
    | sl => cases h
  | str =>
    cases d with
    | v u => cases u <;> simp only [unD] at h <;> cases h; rfl
    | sl => cases h
  | sl t =>
    cases d with
    | v u => cases h
    | sl t' l =>
      simp only [unD] at h
      split at h
      · rename_i e; subst e; cases h; rfl
      · cases h
  | pair a b => cases h
/-- cells of a kind, just so -/
def unDs : (t : Ty) → List D → Option t.El
  | .pair a b, ds => match unDs a (ds.take a.sz), unDs b (ds.drop a.sz) with | some x, some y => some (x, y) | _, _ => none
  | t, [d] => unD t d
  | _, _ => none
theorem unDs_ok : ∀ {t : Ty} {ds : List D} {x : t.El}, unDs t ds = some x → ds = split t x := by
  intro t
  induction t with
  | pair a b iha ihb =>
    intro ds x h
    simp only [unDs] at h
    split at h
    · rename_i y z h1 h2
      cases h
      show ds = split a y ++ split b z
      rw [← iha h1, ← ihb h2, List.take_append_drop]
    · cases h
  | int k => intro ds x h; match ds, h with | [d], h => exact congrArg (· :: []) (unD_ok (t := .int k) h)
  | bool => intro ds x h; match ds, h with | [d], h => exact congrArg (· :: []) (unD_ok (t := .bool) h)
  | str => intro ds x h; match ds, h with | [d], h => exact congrArg (· :: []) (unD_ok (t := .str) h)
  | sl t _ => intro ds x h; match ds, h with | [d], h => exact congrArg (· :: []) (unD_ok (t := .sl t) h)
def unC : List CV → Option (List D)
  | [] => some []
  | .d x :: r => (unC r).map (x :: ·)
  | _ :: _ => none
theorem unC_ok : ∀ {l : List CV} {ds : List D}, unC l = some ds → l = ds.map .d
  | [], _, h => by cases h; rfl
  | .d x :: r, ds, h => by
    simp only [unC] at h
    obtain ⟨y, hy, rfl⟩ := Option.map_eq_some_iff.1 h
    rw [unC_ok hy]; rfl
  | .any :: _, _, h | .und :: _, _, h | .nil :: _, _, h | .nilp :: _, _, h | .dp _ :: _, _, h | .np _ _ :: _, _, h | .row _ :: _, _, h | .rp _ _ _ _ :: _, _, h | .rv _ _ _ _ :: _, _, h | .mp _ :: _, _, h | .nilm :: _, _, h | .kb _ :: _, _, h => by cases h
def SP.de : (p : SP) → SV → Option p.V
  | .any, x => some x
  | .dat t, .e (.c (.d d)) => unD t d
  | .agg t, .e (.agg l) => (unC l).bind (unDs t)
  | .ptr t, .e (.c (.dp l)) => unDs t l
  | .np i o, .e (.c (.np j p)) => if i = j ∧ o = p then some () else none
  | .row i, .e (.c (.row j)) => if i = j then some () else none
  | .mp i, .e (.c (.mp j)) => if i = j then some () else none
  | .nil, .e (.c .nil) => some ()
  | .nilp, .e (.c .nilp) => some ()
  | _, _ => none
theorem SP.de_ok {p : SP} {x : SV} {v : p.V} (h : p.de x = some v) : x = p.sv v := by
  unfold SP.de at h
  split at h
  · cases h; rfl
  · rw [unD_ok h]; rfl
  · obtain ⟨ds, h1, h2⟩ := Option.bind_eq_some_iff.1 h
    rw [unC_ok h1, unDs_ok h2]; rfl
  · rw [unDs_ok h]; rfl
  · split at h
    · rename_i e; obtain ⟨rfl, rfl⟩ := e; rfl
    · cases h
  · split at h
    · rename_i e; subst e; rfl
    · cases h
  · split at h
    · rename_i e; subst e; rfl
    · cases h
  · rfl
  · rfl
  · cases h
@[reducible] def envV : List (Nat × SP) → Type
  | [] => Unit
  | p :: r => p.2.V × envV r
def envS : (ps : List (Nat × SP)) → envV ps → List (Nat × SV)
  | [], _ => []
  | p :: r, v => (p.1, p.2.sv v.1) :: envS r v.2
def envD : (ps : List (Nat × SP)) → List (Nat × SV) → Option (envV ps)
  | [], [] => some ()
  | p :: r, (s, x) :: l =>
    if s = p.1 then
      match p.2.de x, envD r l with
      | some v, some w => some (v, w)
      | _, _ => none
    else none
  | _, _ => none
theorem envD_ok : ∀ {ps : List (Nat × SP)} {l : List (Nat × SV)} {v : envV ps}, envD ps l = some v → l = envS ps v
  | [], [], _, _ => rfl
  | [], _ :: _, _, h => by cases h
  | _ :: _, [], _, h => by cases h
  | p :: r, (s, x) :: l, v, h => by
    simp only [envD] at h
    split at h
    · rename_i e; subst e
      split at h
      · rename_i h1 h2
        cases h
        rw [SP.de_ok h1, envD_ok h2]; rfl
      · cases h
    · cases h
/-- an own block: a row; cells, each of them as slots are told; a map -/
inductive OP where
  | row (t : Ty) (T : Nat)
  | cells (T : Nat) (ps : List SP)
  | map (ka va : Bool) (kt vt : Ty)
@[reducible] def cellV : List SP → Type
  | [] => Unit
  | p :: r => p.V × cellV r
def cellC : (p : SP) → p.V → Option CV
  | .any, .e (.c x) => some x
  | .dat t, x => some (.d (hd (split t x)))
  | .ptr t, x => some (.dp (split t x))
  | .np i o, _ => some (.np i o)
  | .row i, _ => some (.row i)
  | .mp i, _ => some (.mp i)
  | .nil, _ => some .nil
  | .nilp, _ => some .nilp
  | _, _ => none
def cellsC : (ps : List SP) → cellV ps → List CV
  | [], _ => []
  | p :: r, v => ((cellC p v.1).getD .any) :: cellsC r v.2
def cellsD : (ps : List SP) → List CV → Option (cellV ps)
  | [], [] => some ()
  | p :: r, x :: l =>
    match p.de (.e (.c x)), cellsD r l with
    | some v, some w => some (v, w)
    | _, _ => none
  | _, _ => none
theorem cellC_ok {p : SP} {x : CV} {v : p.V} (h : p.de (.e (.c x)) = some v) : (cellC p v).getD .any = x := by
  have := SP.de_ok h
  cases p <;> simp only [SP.sv] at this
  · cases h; rfl
  · cases this; rfl
  · cases this
  · cases this; rfl
  · cases this; rfl
  · cases this; rfl
  · cases this; rfl
  · cases this; rfl
  · cases this; rfl
theorem cellsD_ok : ∀ {ps : List SP} {l : List CV} {v : cellV ps}, cellsD ps l = some v → l = cellsC ps v
  | [], [], _, _ => rfl
  | [], _ :: _, _, h => by cases h
  | _ :: _, [], _, h => by cases h
  | p :: r, x :: l, v, h => by
    simp only [cellsD] at h
    split at h
    · rename_i h1 h2
      cases h
      simp only [cellsC]
      rw [cellC_ok h1, ← cellsD_ok h2]
    · cases h
@[reducible] def OP.V : OP → Type
  | .row t _ => List t.El
  | .cells _ ps => cellV ps
  | .map _ _ kt vt => List (kt.El × vt.El)
def OP.ob : (p : OP) → p.V → Ob
  | .row t T, l => .row t T l
  | .cells T ps, v => .cells T (cellsC ps v)
  | .map ka va kt vt, l => .map ka va kt vt l
def OP.de : (p : OP) → Ob → Option p.V
  | .row t T, .row t' T' l => if h : t' = t then (if T' = T then some (h ▸ l) else none) else none
  | .cells T ps, .cells T' l => if T' = T then cellsD ps l else none
  | .map ka va kt vt, .map ka' va' kt' vt' l => if h : kt' = kt ∧ vt' = vt then (if ka' = ka ∧ va' = va then some (h.1 ▸ h.2 ▸ l) else none) else none
  | _, _ => none
theorem OP.de_ok {p : OP} {o : Ob} {v : p.V} (h : p.de o = some v) : o = p.ob v := by
  unfold OP.de at h
  split at h
  · split at h
    · rename_i e; subst e
      split at h
      · rename_i e; subst e; cases h; rfl
      · cases h
    · cases h
  · split at h
    · rename_i e; subst e
      rw [cellsD_ok h]; rfl
    · cases h
  · split at h
    · rename_i e; obtain ⟨rfl, rfl⟩ := e
      split at h
      · rename_i e; obtain ⟨rfl, rfl⟩ := e; cases h; rfl
      · cases h
    · cases h
  · cases h
@[reducible] def obV : List (Nat × OP) → Type
  | [] => Unit
  | p :: r => p.2.V × obV r
def obS : (ps : List (Nat × OP)) → obV ps → List (Nat × Ob)
  | [], _ => []
  | p :: r, v => (p.1, p.2.ob v.1) :: obS r v.2
def obD : (ps : List (Nat × OP)) → List (Nat × Ob) → Option (obV ps)
  | [], [] => some ()
  | p :: r, (s, x) :: l =>
    if s = p.1 then
      match p.2.de x, obD r l with
      | some v, some w => some (v, w)
      | _, _ => none
    else none
  | _, _ => none
theorem obD_ok : ∀ {ps : List (Nat × OP)} {l : List (Nat × Ob)} {v : obV ps}, obD ps l = some v → l = obS ps v
  | [], [], _, _ => rfl
  | [], _ :: _, _, h => by cases h
  | _ :: _, [], _, h => by cases h
  | p :: r, (s, x) :: l, v, h => by
    simp only [obD] at h
    split at h
    · rename_i e; subst e
      split at h
      · rename_i h1 h2
        cases h
        rw [OP.de_ok h1, obD_ok h2]; rfl
      · cases h
    · cases h
/-- the form of a state -/
structure Frm where
  n : Nat
  ps : List (Nat × SP)
  os : List (Nat × OP)
@[reducible] def Frm.V (q : Frm) : Type := envV q.ps × obV q.os
def Frm.st (q : Frm) (v : q.V) : St := ⟨q.n, envS q.ps v.1, obS q.os v.2⟩
def Frm.de (q : Frm) (σ : St) : Option q.V :=
  if σ.n = q.n then
    match envD q.ps σ.env, obD q.os σ.objs with
    | some v, some w => some (v, w)
    | _, _ => none
  else none
theorem Frm.de_ok {q : Frm} {σ : St} {v : q.V} (h : q.de σ = some v) : σ = q.st v := by
  obtain ⟨n, e, o⟩ := σ
  unfold Frm.de at h
  split at h
  · rename_i hn
    simp only at hn; subst hn
    split at h
    · rename_i h1 h2
      cases h
      simp only at h1 h2
      rw [envD_ok h1, obD_ok h2]; rfl
    · cases h
  · cases h
/-- a loop's sum, by the form of its head -/
def sumP (q : Frm) (R : q.V → Tr (Ex × St)) : St → Tr (Ex × St) := fun σ =>
  match q.de σ with
  | some v => R v
  | none => .fail
theorem SumOk.pat {N : Nat} {C : Cx} {nr : List NR} {lp : LP} {i : LI} (q : Frm) (R : q.V → Tr (Ex × St)) (μ : q.V → Nat)
    (step : ∀ v, (∀ v', μ v' < μ v → Gives (iter (μ v) (i.f N C nr lp) (i.h nr) (q.st v')) (R v')) → Gives ((i.f N C nr lp (q.st v)).bind (again (μ v) (i.f N C nr lp) (i.h nr))) (R v)) : SumOk N C nr lp i (sumP q R) :=
  .of q.st μ R (fun σ => by
    unfold sumP
    cases e : q.de σ with
    | none => exact .inl rfl
    | some v => exact .inr ⟨v, Frm.de_ok e, rfl⟩) step
theorem Gives.run {α β : Type} {t t' : Tr α} {k : α → Tr β} {s : Tr β} (h : t = t') (h' : Gives (t'.bind k) s) : Gives (t.bind k) s := h ▸ h'
theorem Gives.next {n : Nat} {f : St → Tr (Ex × St)} {h : St → St} {σ σ' : St} {s : Tr (Ex × St)} (e : h σ = σ') (hi : Gives (iter n f h σ') s) : Gives ((Tr.ret (Ex.nx, σ)).bind (again n f h)) s := by
  show Gives (iter n f h (h σ)) s
  rw [e]; exact hi
theorem Gives.lite {α β : Type} {b : Bool} {t e : Tr α} {k : α → Tr β} {s : Tr β} (h1 : b = true → Gives (t.bind k) s) (h2 : b = false → Gives (e.bind k) s) : Gives ((Tr.ite b t e).bind k) s := Gives.ite h1 h2
theorem Gives.lneed {α β : Type} {b : Bool} {t : Tr α} {k : α → Tr β} {s : Tr β} (hb : b = true) (h : Gives (t.bind k) s) : Gives ((Tr.need b t).bind k) s := Gives.need hb h
end Go.Proofs.YtdngaaploooceaaDoor.Sy

/- The calculus, twenty-eighth part: contracts that are the text itself; contracts out of proofs about the model. -/
set_option maxRecDepth 100000
namespace Go.Proofs.YtdngaaploooceaaDoor.Sy
open Go.RowKit Kit Go.Proofs

/-- what a function's text answers -/
def auto (q : Fn) (C : Cx) (N : Nat) (nr : List NR) : Ctr := fun xs τ => bif Nat.ble xs.length q.n then q.go N C nr [] xs τ else .fail
theorem auto_ok {P : Program} {f : Nat} {C : Cx} {q : Fn} {N : Nat} {nr : List NR} (hC : CxOk P C) (hm : P.follows .mixedOrders = true) (hI : Is P f q) : CtrOk P f (auto q C N nr) :=
  .of_exec hC hm hI (LpsOk.none (N := N) (nr := nr)) fun xs τ => by
    unfold auto
    cases h : Nat.ble xs.length q.n with
    | false => exact .inl rfl
    | true => exact .inr ⟨xs, Nat.le_of_ble_eq_true h, fun M β vs hs => ⟨hs, fun K hk => hk⟩⟩

/-- a function that leaves the world alone and answers one value -/
theorem CtrOk.plain {P : Program} {f : Nat} {α : Type} {A : Args α} {F : α → SV} (hE : Entered P f)
    (h : ∀ (b : Base) (M : Snap) (β : Plc) (vs : List Value) (a : α), Rel b M M β St.nil #[] b.toWorld → SVRs M β (A.sv a) vs → A.Bd a → ∃ v, SVR M β (F a) v ∧ Calls P f vs.toArray b.toWorld fun e w' => e = .returned v ∧ w' = b.toWorld) : CtrOk P f (ctr A fun a => .ret (F a, [])) := by
  refine ⟨hE, fun b M β τ xs vs hrel hxs K hk => ?_⟩
  obtain ⟨tn, te, to⟩ := τ
  unfold ctr at hk
  cases te with
  | cons => exact hk.elim
  | nil =>
    cases to with
    | cons => exact hk.elim
    | nil =>
      cases e : A.de xs with
      | none => simp only [e] at hk; exact hk.elim
      | some a =>
        simp only [e] at hk
        obtain ⟨hs, hb⟩ := A.ok M β xs vs a e hxs
        have hrel' : Rel b M M β St.nil #[] b.toWorld := { hrel with size := Nat.le_refl _, small := Nat.zero_le _ }
        obtain ⟨v, hv, hc⟩ := h b M β vs a hrel' hs hb
        refine hc.mono fun e' w' hq => ?_
        obtain ⟨rfl, rfl⟩ := hq
        exact ⟨_, _, v, M, β, hk, rfl, hv, hrel'⟩

theorem Gives.rtt {α : Type} {t s1 s2 : Tr α} {b : Bool} (hb : b = true) (h : Gives t s1) : Gives t (.ite b s1 s2) := .rite (fun _ => h) (fun h' => by rw [hb] at h'; cases h')
theorem Gives.rff {α : Type} {t s1 s2 : Tr α} {b : Bool} (hb : b = false) (h : Gives t s2) : Gives t (.ite b s1 s2) := .rite (fun h' => by rw [hb] at h'; cases h') (fun _ => h)
theorem Gives.rb {α : Type} {t s1 s2 : Tr α} {b b' : Bool} (hb : b = b') (h : Gives t (.ite b' s1 s2)) : Gives t (.ite b s1 s2) := hb ▸ h
theorem Gives.boths {α : Type} {t e t' e' : Tr α} (h1 : Gives t t') (h2 : Gives e e') : Gives (.both t e) (.both t' e') := ⟨fun K hk => ⟨h1.out K hk.1, h2.out K hk.2⟩⟩
/-- tests told by what they test -/
theorem Gives.lif {α β : Type} {p : Prop} [Decidable p] {t e : Tr α} {k : α → Tr β} {s : Tr β} (h1 : p → Gives (t.bind k) s) (h2 : ¬ p → Gives (e.bind k) s) : Gives ((Tr.ite (decide p) t e).bind k) s := .lite (fun h => h1 (of_decide_eq_true h)) (fun h => h2 (of_decide_eq_false h))
theorem Gives.lnd {α β : Type} {p : Prop} [Decidable p] {t : Tr α} {k : α → Tr β} {s : Tr β} (hp : p) (h : Gives (t.bind k) s) : Gives ((Tr.need (decide p) t).bind k) s := .lneed (decide_eq_true hp) h
theorem Gives.if_ {α : Type} {p : Prop} [Decidable p] {t e : Tr α} {s : Tr α} (h1 : p → Gives t s) (h2 : ¬ p → Gives e s) : Gives (.ite (decide p) t e) s := .ite (fun h => h1 (of_decide_eq_true h)) (fun h => h2 (of_decide_eq_false h))
theorem Gives.nd {α : Type} {p : Prop} [Decidable p] {t : Tr α} {s : Tr α} (hp : p) (h : Gives t s) : Gives (.need (decide p) t) s := .need (decide_eq_true hp) h
theorem Gives.rnd {α : Type} {p : Prop} [Decidable p] {t s1 : Tr α} (h1 : p → Gives t s1) : Gives t (.need (decide p) s1) := .rneed fun h => h1 (of_decide_eq_true h)
theorem inR_of {k : Int} {n : Nat} (h0 : 0 ≤ k) (h : k < n) : inR k n = true := by simp [inR]; omega
theorem drop_at {α : Type} (l : List α) (k : Nat) (d : α) (h : k < l.length) : l.drop k = l.getD k d :: l.drop (k + 1) := by
  rw [List.drop_eq_getElem_cons h]; simp [List.getD, List.getElem?_eq_getElem h]

theorem any_t {α : Type} {p : α → Bool} {x : α} {l : List α} (h : p x = true) : (x :: l).any p = true := by rw [List.any_cons, h, Bool.true_or]
theorem any_f {α : Type} {p : α → Bool} {x : α} {l : List α} (h : p x = false) : (x :: l).any p = l.any p := by rw [List.any_cons, h, Bool.false_or]
theorem all_f {α : Type} {p : α → Bool} {x : α} {l : List α} (h : p x = false) : (x :: l).all p = false := by rw [List.all_cons, h, Bool.false_and]
theorem all_t {α : Type} {p : α → Bool} {x : α} {l : List α} (h : p x = true) : (x :: l).all p = l.all p := by rw [List.all_cons, h, Bool.true_and]

/-- the same answers in other words -/
theorem CtrOk.words {P : Program} {f : Nat} {F G : Ctr} (h : CtrOk P f F) (hw : ∀ xs τ (K : SV × St → Prop), (G xs τ).sat K → (F xs τ).sat fun r => ∃ y, K (y, r.2) ∧ ∀ M β v, SVR M β r.1 v → SVR M β y v) : CtrOk P f G :=
  ⟨h.1, fun b M β τ xs vs h1 h2 K hk => (h.2 b M β τ xs vs h1 h2 _ (hw xs τ K hk)).mono fun e w' ⟨x, τ', v, M', β', hx, he, hv, hr⟩ => by
    obtain ⟨y, hy, hs⟩ := hx
    exact ⟨y, τ', v, M', β', hy, he, hs _ _ _ hv, hr⟩⟩

/-- a contract over typed data out of one over states -/
theorem CtrOk.typed {P : Program} {f : Nat} {F : Ctr} {α : Type} {A : Args α} {G : α → Ans} (h : CtrOk P f F) (hg : ∀ a, A.Bd a → Gives (F (A.sv a) St.nil) ((G a).bind fun r => .ret (r.1, ⟨0, [], r.2⟩))) : CtrOk P f (ctr A G) := by
  refine ⟨h.1, fun b M β τ xs vs hrel hxs K hk => ?_⟩
  obtain ⟨tn, te, to⟩ := τ
  unfold ctr at hk
  cases te with
  | cons => exact hk.elim
  | nil =>
    cases to with
    | cons => exact hk.elim
    | nil =>
      cases e : A.de xs with
      | none => simp only [e] at hk; exact hk.elim
      | some a =>
        simp only [e] at hk
        obtain ⟨hs, hb⟩ := A.ok M β xs vs a e hxs
        have hrel' : Rel b M M β St.nil #[] b.toWorld := { hrel with size := Nat.le_refl _, small := Nat.zero_le _ }
        exact h.2 b M β St.nil (A.sv a) vs hrel' hs K ((hg a hb).out K hk)

/-! ### closed runs -/
def Tr.out {α : Type} : Tr α → Option α
  | .ret a => some a
  | .fail => none
  | .ite b t e => bif b then t.out else e.out
  | .both _ _ => none
theorem Gives.of_out {α : Type} {t : Tr α} {a : α} (h : t.out = some a) : Gives t (.ret a) := ⟨fun K hk => by
  induction t with
  | ret b => cases h; exact hk
  | fail => cases h
  | ite b t e iht ihe =>
    simp only [Tr.out] at h
    refine ⟨fun hb => ?_, fun hb => ?_⟩
    · subst hb; exact iht h
    · subst hb; exact ihe h
  | both => cases h⟩
/-- a closed run: a contract at one point -/
theorem CtrOk.point {P : Program} {f : Nat} {F : Ctr} {α : Type} {A : Args α} {c : α → Bool} {a0 : α} {r : SV × List (Nat × Ob)} (h : CtrOk P f F) (hc : ∀ a, c a = true → a = a0) (hr : (F (A.sv a0) St.nil).out = some (r.1, ⟨0, [], r.2⟩)) : CtrOk P f (ctr A fun a => .need (c a) (.ret r)) :=
  h.typed fun a _ => .rneed fun hca => by rw [hc a hca]; exact .of_out hr
/-- one closed run of a function, as its contract -/
theorem CtrOk.at {P : Program} {f : Nat} {G F : Ctr} (h : CtrOk P f G) (hg : ∀ xs τ, Gives (G xs τ) (F xs τ)) : CtrOk P f F :=
  ⟨h.1, fun b M β τ xs vs h1 h2 K hk => h.2 b M β τ xs vs h1 h2 K ((hg xs τ).out K hk)⟩
end Go.Proofs.YtdngaaploooceaaDoor.Sy

/- The calculus, twenty-ninth part: contracts of functions that are lent memory, by the form of what is lent; answers in fewer words. -/
set_option maxRecDepth 100000
namespace Go.Proofs.YtdngaaploooceaaDoor.Sy
open Go.RowKit Kit Go.Proofs
/-- a pointer into an own block -/
def aNp (i o : Nat) : Arg Unit where
  sv _ := .e (.c (.np i o))
  de
    | .e (.c (.np j p)) => if j = i ∧ p = o then some () else none
    | _ => none
  Bd _ := True
  ok M β x v a h hx := by
    split at h
    · split at h
      · rename_i j p e; obtain ⟨rfl, rfl⟩ := e; exact ⟨hx, trivial⟩
      · cases h
    · cases h
/-- a row of the call's own -/
def aRow (i : Nat) : Arg Unit where
  sv _ := .e (.c (.row i))
  de
    | .e (.c (.row j)) => if j = i then some () else none
    | _ => none
  Bd _ := True
  ok M β x v a h hx := by
    split at h
    · split at h
      · rename_i j e; subst e; exact ⟨hx, trivial⟩
      · cases h
    · cases h
/-- truth values that are known, as any others -/
theorem CtrOk.unk {P : Program} {f : Nat} {F : Ctr} (h : CtrOk P f F) : CtrOk P f fun xs τ => F xs (unkS τ) := by
  refine ⟨h.1, fun b M β τ xs vs hrel hxs K hk => h.2 b M β (unkS τ) xs vs ?_ hxs K hk⟩
  exact { hrel with
    env := fun s x hs => by
      simp only [unkS, get_mapv] at hs
      cases e : get τ.env s with
      | none => rw [e] at hs; cases hs
      | some y =>
        rw [e] at hs; cases hs
        obtain ⟨v, hv, hr⟩ := hrel.env s y e
        exact ⟨v, hv, hr.unk⟩
    objs := fun i o ho => by
      simp only [unkS, get_mapv] at ho
      cases e : get τ.objs i with
      | none => rw [e] at ho; cases ho
      | some y =>
        rw [e] at ho; cases ho
        obtain ⟨p, hp, hr⟩ := hrel.objs i y e
        exact ⟨p, hp, hr.unk⟩ }
/-- a function that is lent what has this form -/
def ctrL {α : Type} (A : Args α) (q : Frm) (f : α → q.V → Tr (SV × St)) : Ctr := fun xs τ =>
  match A.de xs, q.de (unkS τ) with
  | some a, some v => f a v
  | _, _ => .fail
theorem CtrOk.mkL {P : Program} {f : Nat} {C : Cx} (hC : CxOk P C) (hm : P.follows .mixedOrders = true) {q : Fn} (hI : Is P f q) {N : Nat} {nr : List NR} {lp : LP} (hlp : LpsOk N C nr lp q.loops) {α : Type} {A : Args α} {Q : Frm} {F : α → Q.V → Tr (SV × St)} (hn : A.n ≤ q.n)
    (h : ∀ a v, Gives (q.go N C nr lp (A.sv a) (Q.st v)) (F a v)) : CtrOk P f (ctrL A Q F) := by
  refine CtrOk.unk (F := fun xs τ => match A.de xs, Q.de τ with | some a, some v => F a v | _, _ => .fail) (.of_exec hC hm hI hlp fun xs τ => ?_)
  cases e : A.de xs with
  | none => exact .inl rfl
  | some a =>
    cases e' : Q.de τ with
    | none => exact .inl rfl
    | some v =>
      refine .inr ⟨A.sv a, by rw [A.len]; exact hn, fun M β vs hs => ⟨(A.ok M β xs vs a e hs).1, fun K hk => ?_⟩⟩
      rw [Frm.de_ok e']
      exact (h a v).out K hk

/-! ### an answer in fewer words -/
/-- less is said of an answer and of what is left -/
def Less (r r' : SV × St) : Prop := (∀ M β v, SVR M β r.1 v → SVR M β r'.1 v) ∧ r'.2.n = r.2.n ∧ r'.2.env = r.2.env ∧ ∀ i o, get r'.2.objs i = some o → get r.2.objs i = some o
def LessT (t s : Tr (SV × St)) : Prop := ∀ K : SV × St → Prop, s.sat K → t.sat fun r => ∃ r', K r' ∧ Less r r'
theorem Less.refl (r : SV × St) : Less r r := ⟨fun _ _ _ h => h, rfl, rfl, fun _ _ h => h⟩
theorem LessT.ret {r r' : SV × St} (h : Less r r') : LessT (.ret r) (.ret r') := fun _ hk => ⟨r', hk, h⟩
theorem LessT.refl (t : Tr (SV × St)) : LessT t t := fun _ hk => sat_mono hk fun r h => ⟨r, h, Less.refl r⟩
theorem LessT.ite {b : Bool} {t e s : Tr (SV × St)} (h1 : b = true → LessT t s) (h2 : b = false → LessT e s) : LessT (.ite b t e) s := fun K hk => ⟨fun h => h1 h K hk, fun h => h2 h K hk⟩
theorem LessT.both {t e s : Tr (SV × St)} (h1 : LessT t s) (h2 : LessT e s) : LessT (.both t e) s := fun K hk => ⟨h1 K hk, h2 K hk⟩
theorem LessT.rneed {b : Bool} {t s : Tr (SV × St)} (h : b = true → LessT t s) : LessT t (.need b s) := fun K hk => by
  obtain ⟨h1, h2⟩ := Tr.sat_need hk
  exact h h1 K h2
theorem LessT.need {b : Bool} {t s : Tr (SV × St)} (hb : b = true) (h : LessT t s) : LessT (.need b t) s := .ite (fun _ => h) (fun h' => by rw [hb] at h'; cases h')
theorem CtrOk.less {P : Program} {f : Nat} {F G : Ctr} (h : CtrOk P f F) (hw : ∀ xs τ, LessT (F xs τ) (G xs τ)) : CtrOk P f G := by
  refine ⟨h.1, fun b M β τ xs vs hrel hxs K hk => ?_⟩
  refine (h.2 b M β τ xs vs hrel hxs _ (hw xs τ K hk)).mono fun e w' hq => ?_
  obtain ⟨x, τ', v, M', β', ⟨⟨y, τ2⟩, hK, h1, h2, h3, h4⟩, he, hx, hr⟩ := hq
  refine ⟨y, τ2, v, M', β', hK, he, h1 _ _ _ hx, ?_⟩
  exact { hr with size := by rw [h2]; exact hr.size, small := by rw [h2]; exact hr.small, env := fun s x hs => hr.env s x (h3 ▸ hs), objs := fun i o ho => hr.objs i o (h4 i o ho) }
theorem CtrOk.lessC {P : Program} {f : Nat} {α : Type} {A : Args α} {F G : α → Ans} (h : CtrOk P f (ctr A F)) (hw : ∀ a, LessT ((F a).bind fun r => .ret (r.1, ⟨0, [], r.2⟩)) ((G a).bind fun r => .ret (r.1, ⟨0, [], r.2⟩))) : CtrOk P f (ctr A G) := by
  refine h.less fun xs τ => ?_
  obtain ⟨tn, te, to⟩ := τ
  cases te with
  | cons => exact fun K hk => hk.elim
  | nil =>
    cases to with
    | cons => exact fun K hk => hk.elim
    | nil =>
      unfold ctr
      cases e : A.de xs with
      | none => exact fun K hk => hk.elim
      | some a => exact hw a
/-- the nil slice as a row of no elements -/
theorem EVR.nilL {M : Snap} {β : Plc} {t : Ty} {v : Value} (h : EVR M β (.c .nil) v) : EVR M β (.c (.d (.sl t []))) v := by
  have h : v = .slice none 0 0 := h
  subst h; exact DR.nil t
end Go.Proofs.YtdngaaploooceaaDoor.Sy

/- The calculus, thirtieth part: a text carried out piece by piece. -/
set_option maxRecDepth 100000
namespace Go.Proofs.YtdngaaploooceaaDoor.Sy
open Go.RowKit Kit Go.Proofs
def GC.fst : GC → GC
  | .seq a _ => a
  | g => g
def GC.snd : GC → GC
  | .seq _ b => b
  | g => g
theorem Tr.bind_assoc {α β γ : Type} {f : α → Tr β} {g : β → Tr γ} : ∀ t : Tr α, (t.bind f).bind g = t.bind fun x => (f x).bind g
  | .ret _ => rfl
  | .fail => rfl
  | .ite b t e => by simp only [Tr.bind, Tr.bind_assoc t, Tr.bind_assoc e]
  | .both t e => by simp only [Tr.bind, Tr.bind_assoc t, Tr.bind_assoc e]
/-- what follows a piece -/
def nxt (N : Nat) (C : Cx) (nr : List NR) (lp : LP) (b : GC) (lo : Nat) (le : List (Nat × Nat)) (lr : Nat) (r : Ex × St) : Tr (Ex × St) :=
  match r.1 with | .nx => exec N C nr lp b lo le lr r.2 | _ => .ret r
section
variable {α : Type} {N : Nat} {C : Cx} {nr : List NR} {lp : LP} {g : GC} {lo : Nat} {le : List (Nat × Nat)} {lr : Nat} {σ σ' : St} {f : Ex × St → Tr α} {s : Tr α}
theorem Gives.seq (hg : g = .seq g.fst g.snd) (h : Gives ((exec N C nr lp g.fst (lv g.snd lo le lr) le lr σ).bind fun r => (nxt N C nr lp g.snd lo le lr r).bind f) s) : Gives ((exec N C nr lp g lo le lr σ).bind f) s := by
  have e : (exec N C nr lp g lo le lr σ).bind f = (exec N C nr lp g.fst (lv g.snd lo le lr) le lr σ).bind fun r => (nxt N C nr lp g.snd lo le lr r).bind f := by
    rw [← Tr.bind_assoc]
    conv => lhs; rw [hg]
    rfl
  rw [e]; exact h
/-- on to the next piece, from a state told in these words -/
theorem Gives.goto (e : σ = σ') (h : Gives ((exec N C nr lp g lo le lr σ').bind f) s) : Gives ((Tr.ret (Ex.nx, σ)).bind fun r => (nxt N C nr lp g lo le lr r).bind f) s := by
  subst e; exact h
end
end Go.Proofs.YtdngaaploooceaaDoor.Sy
