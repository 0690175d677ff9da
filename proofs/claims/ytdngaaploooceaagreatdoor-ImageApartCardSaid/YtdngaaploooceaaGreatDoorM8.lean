/- Plain laws: an archive that is written is read: the files are the same. -/
import Derived.Test.YtdngaaploooceaaGreatDoorM7
set_option maxRecDepth 100000
namespace Go.Proofs.YtdngaaploooceaaGreatDoor.Sy
open Go.RowKit Kit Go.Proofs
/-! ### digits of base 8 -/
theorem octV_eq {n : Nat} (hn : n ≤ 1000000) {k : Nat} (hk : k ≤ 20) : octV n k = 48 + ((n / 8 ^ k % 8 : Nat) : Int) := by
  have e1 : IntKind.wrap .u64 (3 * (k : Int)) = 3 * (k : Int) := wrap_u64 (by omega)
  have e2 : min (Int.toNat (3 * (k : Int))) (IntKind.bits .i64) = 3 * k := by
    show min (Int.toNat (3 * (k : Int))) 64 = 3 * k
    omega
  have e3 : ((2 : Int) ^ (3 * k)) = ((8 ^ k : Nat) : Int) := by
    rw [Int.pow_mul]; push_cast; rfl
  have e4 : Int.fdiv (n : Int) ((8 ^ k : Nat) : Int) = ((n / 8 ^ k : Nat) : Int) := by
    rw [Int.fdiv_eq_ediv_of_nonneg _ (Int.natCast_nonneg _)]; push_cast; rfl
  have e5 : n / 8 ^ k ≤ n := Nat.div_le_self ..
  unfold octV
  rw [e1, e2, e3, e4]
  generalize n / 8 ^ k = q at e5 ⊢
  have e6 : (BitVec.toNat (BitVec.ofInt (IntKind.bits .i64) ((q : Nat) : Int) &&& BitVec.ofInt (IntKind.bits .i64) 7)) = q % 8 := by
    show BitVec.toNat (BitVec.ofInt 64 ((q : Nat) : Int) &&& BitVec.ofInt 64 7) = _
    rw [BitVec.toNat_and, BitVec.toNat_ofInt, BitVec.toNat_ofInt]
    have f1 : ((q : Int) % ((2 ^ 64 : Nat) : Int)).toNat = q := by omega
    have f2 : ((7 : Int) % ((2 ^ 64 : Nat) : Int)).toNat = 2 ^ 3 - 1 := by decide
    rw [f1, f2, Nat.and_two_pow_sub_one_eq_mod]
  rw [e6]
  have hm : q % 8 < 8 := Nat.mod_lt _ (by omega)
  generalize q % 8 = d at hm ⊢
  rw [wrap_i64n (n := (d : Int)) (by omega)]
  have w : ∀ x : Int, 0 ≤ x → x ≤ 255 → IntKind.wrap .u8 x = x := fun x h1 h2 => by
    have e : IntKind.wrap .u8 x = x % 256 := by simp [IntKind.wrap, IntKind.bits, IntKind.signed]
    omega
  rw [w (d : Int) (by omega) (by omega), w (48 + (d : Int)) (by omega) (by omega)]
/-- digits, the greatest first -/
def digs (n : Int) : Nat → Nat → List Int
  | 0, _ => []
  | s + 1, k => digs n s (k + 1) ++ [octV n k]
theorem digs_len (n : Int) : ∀ s k, (digs n s k).length = s
  | 0, _ => rfl
  | s + 1, k => by rw [digs, List.length_append, digs_len n s]; rfl
theorem octR_digs (n : Int) : ∀ (s k : Nat) (b : List Int), s ≤ b.length → octR n ((k + s : Nat) : Int) s k b = digs n s k ++ b.drop s
  | 0, _, b, _ => rfl
  | s + 1, k, b, h => by
    rw [octR]
    have e : (((k + (s + 1) : Nat) : Int) - 1 - (k : Int)).toNat = s := by omega
    rw [e, show (k : Int) + 1 = ((k + 1 : Nat) : Int) by omega, show ((k + (s + 1) : Nat) : Int) = (((k + 1) + s : Nat) : Int) by congr 1; omega]
    rw [octR_digs n s (k + 1) _ (by rw [List.length_set]; omega), digs, List.append_assoc]
    congr 1
    have : (b.set s (octV n k)).drop s = octV n k :: b.drop (s + 1) := by
      rw [List.drop_eq_getElem_cons (by rw [List.length_set]; omega), List.getElem_set_self, List.drop_set_of_lt (by omega)]
    rw [this]; rfl
theorem octal_digs (n : Int) (d : Nat) : octal n d = digs n d 0 ++ [0] := by
  unfold octal
  have h := octR_digs n d 0 (List.replicate ((d : Int) + 1).toNat 0) (by rw [List.length_replicate]; omega)
  rw [Nat.zero_add] at h
  rw [show ((d : Int)).toNat = d by omega]
  show octR n d d ((0 : Nat) : Int) _ = _
  rw [h, List.drop_replicate, show ((d : Int) + 1).toNat - d = 1 by omega]; rfl
theorem numL_snoc : ∀ (l : List Int) (n c : Int), (numL n l).2 = true → numL n (l ++ [c]) = if c < 48 ∨ 55 < c ∨ 65536 < (numL n l).1 then (0, false) else (nextN (numL n l).1 c, true)
  | [], n, c, _ => by
    rw [List.nil_append, numL]; rfl
  | x :: r, n, c, h => by
    rw [numL] at h
    rw [List.cons_append, numL, numL]
    split at h
    · cases h
    · rename_i hc
      rw [if_neg hc, if_neg hc]
      exact numL_snoc r _ c h
theorem numL_digs {n : Nat} (hn : n ≤ 65536) : ∀ (s k : Nat), k + s ≤ 20 → n / 8 ^ (k + s) = 0 → numL 0 (digs n s k) = (((n / 8 ^ k : Nat) : Int), true)
  | 0, k, _, h => by rw [Nat.add_zero] at h; rw [h]; rfl
  | s + 1, k, hk, h => by
    have ih := numL_digs hn s (k + 1) (by omega) (by rw [show k + 1 + s = k + (s + 1) by omega]; exact h)
    rw [digs, numL_snoc _ _ _ (by rw [ih]), ih, octV_eq (by omega) (by omega)]
    have hm : n / 8 ^ k % 8 < 8 := Nat.mod_lt _ (by omega)
    have hd : n / 8 ^ (k + 1) = n / 8 ^ k / 8 := by rw [Nat.pow_succ, Nat.div_div_eq_div_mul]
    have hle : n / 8 ^ k ≤ n := Nat.div_le_self ..
    rw [hd]
    generalize n / 8 ^ k = q at hm hle ⊢
    rw [if_neg (by omega), nextN_eq (by omega) (by omega)]
    congr 1
    omega
theorem num_octal {n : Nat} (hn : n ≤ 65536) : numL 0 ((octal n 11).take 11) = ((n : Int), true) := by
  rw [show (11 : Int) = ((11 : Nat) : Int) from rfl, octal_digs, List.take_append_of_le_length (by rw [digs_len]; omega), List.take_of_length_le (by rw [digs_len]; omega), numL_digs hn 11 0 (by omega) (Nat.div_eq_of_lt (by omega))]
  rw [Nat.pow_zero, Nat.div_one]

/-! ### the fields of a head -/
theorem cp_eq {es ns : List Int} {k : Nat} (h : k + ns.length ≤ es.length) : cp es k ns = es.take k ++ ns ++ es.drop (k + ns.length) := by
  unfold cp
  have e : min ns.length ((es.length : Int) - k).toNat = ns.length := by omega
  rw [e, List.take_length]
/-- what stands between two places -/
def mid (l : List Int) (a b : Nat) : List Int := (l.take b).drop a
theorem mid_cp_in {es ns : List Int} {k : Nat} (h : k + ns.length ≤ es.length) {b : Nat} (hb : b ≤ ns.length) : mid (cp es k ns) k (k + b) = ns.take b := by
  unfold mid
  rw [cp_eq h, List.take_append_of_le_length (by simp only [List.length_append, List.length_take]; omega), List.take_append, List.drop_append]
  have e1 : (es.take k).length = k := by rw [List.length_take]; omega
  rw [List.length_take, e1, List.drop_eq_nil_of_le (by simp only [List.length_take]; omega), List.nil_append, show k - min (k + b) k = 0 by omega, List.drop_zero, show k + b - k = b by omega]
theorem get_cp {es ns : List Int} {k : Nat} (h : k + ns.length ≤ es.length) {i : Nat} (hi : i < k ∨ k + ns.length ≤ i) : (cp es k ns)[i]? = es[i]? := by
  rw [cp_eq h]
  have e1 : (es.take k).length = k := by rw [List.length_take]; omega
  rcases hi with hi | hi
  · rw [List.append_assoc, List.getElem?_append_left (by omega), List.getElem?_take_of_lt hi]
  · rw [List.getElem?_append_right (by rw [List.length_append]; omega), List.getElem?_drop, List.length_append, e1]
    congr 1; omega
theorem mid_ext {l m : List Int} {a b : Nat} (h : ∀ i, a ≤ i → i < b → l[i]? = m[i]?) : mid l a b = mid m a b := by
  unfold mid
  apply List.ext_getElem?
  intro i
  rw [List.getElem?_drop, List.getElem?_drop, List.getElem?_take, List.getElem?_take]
  split
  · exact h _ (by omega) (by assumption)
  · rfl
theorem mid_cp_out {es ns : List Int} {k : Nat} (h : k + ns.length ≤ es.length) {a b : Nat} (hb : b ≤ k ∨ k + ns.length ≤ a) : mid (cp es k ns) a b = mid es a b :=
  mid_ext fun i h1 h2 => get_cp h (by omega)
theorem mid_set {es : List Int} {k : Nat} {x : Int} {a b : Nat} (hb : b ≤ k ∨ k < a) : mid (es.set k x) a b = mid es a b :=
  mid_ext fun i h1 h2 => by rw [List.getElem?_set_ne (by omega)]
theorem sumF_ext : ∀ (l m : List Int) (k : Nat), l.length = m.length → (∀ i, ¬ (148 ≤ k + i ∧ k + i < 156) → l[i]? = m[i]?) → sumF k l = sumF k m
  | [], [], _, _, _ => rfl
  | [], _ :: _, _, h, _ => by simp at h
  | _ :: _, [], _, h, _ => by simp at h
  | x :: l, y :: m, k, hl, h => by
    rw [sumF, sumF, sumF_ext l m (k + 1) (by simpa using hl) fun i hi => by
      have := h (i + 1) (by omega)
      simpa using this]
    congr 1
    split
    · rfl
    · rename_i hk
      have := h 0 (by omega)
      simpa using this
section
variable (f : File) (hf : f.1.size ≤ 99)
/-- the head, field by field -/
def hd0 : List Int := cp0 (List.replicate 512 0) (strB f.1)
def hd1 : List Int := cp (hd0 f) 100 (octal (if f.2.1 then 493 else 420) 7)
def hd2 : List Int := cp (hd1 f) 108 (octal 0 7)
def hd3 : List Int := cp (hd2 f) 116 (octal 0 7)
def hd4 : List Int := cp (hd3 f) 124 (octal f.2.2.length 11)
def hd5 : List Int := cp (hd4 f) 136 (octal 0 11)
def hd6 : List Int := (hd5 f).set 156 (if f.2.1 then 53 else 48)
theorem headA_hd : headA f = cp (hd6 f) 257 ustar := rfl
theorem o7 (n : Int) : (octal n 7).length = 8 := octal_len n 7
theorem o11 (n : Int) : (octal n 11).length = 12 := octal_len n 11
theorem o6 (n : Int) : (octal n 6 ++ [32]).length = 8 := by rw [List.length_append, octal_len n 6]; rfl
theorem ustar_len : ustar.length = 8 := by decide +kernel
include hf
theorem hd0_len : (hd0 f).length = 512 := by
  unfold hd0
  have hn := strB_length f.1
  rw [cp0_len (by rw [List.length_replicate]; omega)]; exact List.length_replicate
theorem hd1_len : (hd1 f).length = 512 := by
  have := hd0_len f hf
  unfold hd1; rw [cp_len (by rw [o7]; omega)]; exact this
theorem hd2_len : (hd2 f).length = 512 := by
  have := hd1_len f hf
  unfold hd2; rw [cp_len (by rw [o7]; omega)]; exact this
theorem hd3_len : (hd3 f).length = 512 := by
  have := hd2_len f hf
  unfold hd3; rw [cp_len (by rw [o7]; omega)]; exact this
theorem hd4_len : (hd4 f).length = 512 := by
  have := hd3_len f hf
  unfold hd4; rw [cp_len (by rw [o11]; omega)]; exact this
theorem hd5_len : (hd5 f).length = 512 := by
  have := hd4_len f hf
  unfold hd5; rw [cp_len (by rw [o11]; omega)]; exact this
theorem hd6_len : (hd6 f).length = 512 := by
  unfold hd6; rw [List.length_set]; exact hd5_len f hf
theorem headA_len : (headA f).length = 512 := by
  have := hd6_len f hf
  rw [headA_hd, cp_len (by rw [ustar_len]; omega)]; exact this
theorem sum_head : sumF 0 (headF f) = sumF 0 (headA f) := by
  have h := headA_len f hf
  have o := o6 (sumF 0 (headA f))
  refine sumF_ext _ _ 0 (by rw [headF_len f hf, h]) fun i hi => ?_
  unfold headF
  exact get_cp (by omega) (by omega)
theorem sumOk_head : sumOk (headF f) = true := by
  have h := headA_len f hf
  have o := o6 (sumF 0 (headA f))
  unfold sumOk
  rw [sum_head f hf]
  have e : mid (headF f) 148 (148 + 8) = (octal (sumF 0 (headA f)) 6 ++ [32]).take 8 := by
    unfold headF
    exact mid_cp_in (by omega) (by omega)
  rw [List.take_of_length_le (by omega)] at e
  exact beq_iff_eq.2 e
theorem size_head : mid (headF f) 124 135 = (octal f.2.2.length 11).take 11 := by
  have h := headA_len f hf
  have h6 := hd6_len f hf
  have h4 := hd4_len f hf
  have h3 := hd3_len f hf
  have o := o6 (sumF 0 (headA f))
  unfold headF
  rw [mid_cp_out (by omega) (by omega), headA_hd, mid_cp_out (by rw [ustar_len]; omega) (by omega)]
  unfold hd6
  rw [mid_set (by omega)]
  unfold hd5
  rw [mid_cp_out (by rw [o11]; omega) (by omega)]
  unfold hd4
  exact mid_cp_in (k := 124) (b := 11) (by rw [o11]; omega) (by rw [o11]; omega)
theorem name_head : (headF f).take 100 = strB f.1 ++ List.replicate (100 - f.1.size) 0 := by
  have h := headA_len f hf
  have h6 := hd6_len f hf
  have h4 := hd4_len f hf
  have h3 := hd3_len f hf
  have h2 := hd2_len f hf
  have h1 := hd1_len f hf
  have h0 := hd0_len f hf
  have hn := strB_length f.1
  have o := o6 (sumF 0 (headA f))
  have m0 : ∀ l : List Int, l.take 100 = mid l 0 100 := fun l => rfl
  rw [m0]
  unfold headF
  rw [mid_cp_out (by omega) (by omega), headA_hd, mid_cp_out (by rw [ustar_len]; omega) (by omega)]
  unfold hd6
  rw [mid_set (by omega)]
  unfold hd5
  rw [mid_cp_out (by rw [o11]; omega) (by omega)]
  unfold hd4
  rw [mid_cp_out (by rw [o11]; omega) (by omega)]
  unfold hd3
  rw [mid_cp_out (by rw [o7]; omega) (by omega)]
  unfold hd2
  rw [mid_cp_out (by rw [o7]; omega) (by omega)]
  unfold hd1
  rw [mid_cp_out (by rw [o7]; omega) (by omega)]
  unfold hd0 cp0 mid
  have e1 : min (strB f.1).length (List.replicate 512 (0 : Int)).length = f.1.size := by rw [List.length_replicate]; omega
  have e2 : (strB f.1).take f.1.size = strB f.1 := List.take_of_length_le (by omega)
  rw [List.drop_zero, e1, List.take_zero, List.nil_append, e2, Nat.zero_add, List.drop_replicate, List.take_append, List.take_of_length_le (i := 100) (by omega), List.take_replicate, hn, show min (100 - f.1.size) (512 - f.1.size) = 100 - f.1.size by omega]
theorem kind_head : (headF f).getD 156 0 = if f.2.1 then 53 else 48 := by
  have h := headA_len f hf
  have h6 := hd6_len f hf
  have h5 := hd5_len f hf
  have o := o6 (sumF 0 (headA f))
  rw [List.getD_eq_getElem?_getD]
  unfold headF
  rw [get_cp (by omega) (by omega), headA_hd, get_cp (by rw [ustar_len]; omega) (by omega)]
  unfold hd6
  rw [List.getElem?_set_self (by omega), Option.getD_some]
theorem oneN_head (hl : f.2.2.length ≤ 65536) : oneN (headF f) = ((f.2.2.length : Int), true) := by
  unfold oneN
  have := size_head f hf
  unfold mid at this
  rw [this, num_octal hl]
end
/-! ### a name, and a nought behind it -/
theorem txt_strB (s : ByteArray) : txt (strB s) = s := by
  unfold txt strOfNums strB
  rw [List.map_map]
  have : ((fun n : Int => UInt8.ofNat n.toNat) ∘ fun c : UInt8 => (c.toNat : Int)) = id := by
    funext c; simp
  rw [this, List.map_id]
theorem bytes_strB (s : ByteArray) : Lib.bytesOf (strB s) = s.data.toList := by
  unfold Lib.bytesOf strB
  rw [List.map_map]
  conv => rhs; rw [← List.map_id s.data.toList]
  congr 1
  funext c; simp
theorem cutN_name {s : ByteArray} (h : idxS s 0 < 0) {n : Nat} (hn : 0 < n) : cutN (strB s ++ List.replicate n 0) = strB s := by
  have hz : Lib.indexByte s.data.toList 0 = -1 := by
    have := Lib.indexByte_ge s.data.toList 0
    have h' : Lib.indexByte s.data.toList 0 < 0 := h
    omega
  have hno := Lib.indexByte_none hz
  have hl := strB_length s
  have hb : Lib.bytesOf (strB s ++ List.replicate n 0) = s.data.toList ++ List.replicate n 0 := by
    rw [← bytes_strB]; unfold Lib.bytesOf; rw [List.map_append, List.map_replicate]; rfl
  have hsl : s.data.toList.length = s.size := Array.length_toList
  have hi : idxB (strB s ++ List.replicate n 0) 0 = s.size := by
    unfold idxB
    rw [hb]
    have hge := Lib.indexByte_ge (s.data.toList ++ List.replicate n (0 : UInt8)) 0
    show Lib.indexByte (s.data.toList ++ List.replicate n 0) 0 = s.size
    have hat : (s.data.toList ++ List.replicate n (0 : UInt8))[s.size]? = some 0 := by
      rw [List.getElem?_append_right (by omega), hsl, Nat.sub_self, List.getElem?_replicate]; simp [hn]
    by_cases hm : Lib.indexByte (s.data.toList ++ List.replicate n (0 : UInt8)) 0 = -1
    · exact absurd hat (Lib.indexByte_none hm _)
    obtain ⟨o, ho⟩ : ∃ o : Nat, Lib.indexByte (s.data.toList ++ List.replicate n (0 : UInt8)) 0 = o := ⟨(Lib.indexByte (s.data.toList ++ List.replicate n (0 : UInt8)) 0).toNat, by omega⟩
    obtain ⟨g1, g2⟩ := Lib.indexByte_some ho
    rw [ho]
    by_cases h1 : o < s.size
    · rw [List.getElem?_append_left (by omega)] at g1
      exact absurd g1 (hno o)
    · by_cases h2 : s.size < o
      · exact absurd hat (g2 _ h2)
      · omega
  unfold cutN
  rw [hi, if_pos (by omega), Int.toNat_natCast, List.take_append_of_le_length (by omega), List.take_of_length_le (by omega)]

/-! ### files -/
theorem fullBad_mem : ∀ {l : List File} {m : Int}, fullBad m l = false → 0 ≤ m → ∀ f ∈ l, m + blkF f ≤ 128
  | [], _, _, _, f, hf => by cases hf
  | g :: r, m, h, hm, f, hf => by
    rw [fullBad, Bool.or_eq_false_iff, decide_eq_false_iff_not] at h
    have hb : 0 ≤ blkF g := by
      unfold blkF
      have : 0 ≤ imin (g.2.2.length : Int) 65536 := by unfold imin; split <;> omega
      have := blocksF_le this; omega
    rcases List.mem_cons.1 hf with rfl | hf
    · omega
    · have := fullBad_mem h.2 (by omega) f hf
      omega
theorem tMay_one {l : List File} (h : tMay l = 0) {f : File} (hf : f ∈ l) : tMay [f] = 0 := by
  obtain ⟨-, h1, h2, h3, -⟩ := tMay_zero h
  have n1 : nameBad f = false := by have := List.any_eq_false.1 h1 f hf; simpa using this
  have n2 : dirBad f = false := by have := List.any_eq_false.1 h2 f hf; simpa using this
  have n3 := fullBad_mem h3 (by omega) f hf
  unfold tMay
  have a1 : [f].any nameBad = false := by rw [List.any_cons, n1]; rfl
  have a2 : [f].any dirBad = false := by rw [List.any_cons, n2]; rfl
  have a3 : fullBad 2 [f] = false := by rw [fullBad, fullBad, decide_eq_false (by omega)]; rfl
  rw [if_neg (by rw [a1]; simp), if_neg (by rw [a2]; simp), if_neg (by rw [a3]; simp)]
theorem nameBad_f {f : File} (h : nameBad f = false) : f.1.size ≤ 99 ∧ idxS f.1 0 < 0 := by
  unfold nameBad at h
  simp only [Bool.or_eq_false_iff, decide_eq_false_iff_not] at h
  omega
theorem oneFl_file {f : File} (h : tMay [f] = 0) (r : List Int) : oneFl (headF f) (f.2.2 ++ r) = f := by
  obtain ⟨-, h1, -, -, h4⟩ := tMay_zero h
  have n1 : nameBad f = false := by have := List.any_eq_false.1 h1 f (List.mem_singleton.2 rfl); simpa using this
  obtain ⟨hs, hi⟩ := nameBad_f n1
  have hl := (of_decide_eq_true (List.all_eq_true.1 h4 f (List.mem_singleton.2 rfl))).2
  unfold oneFl
  rw [name_head f hs, cutN_name hi (by omega), txt_strB, kind_head f hs, oneN_head f hs hl]
  obtain ⟨p, d, c⟩ := f
  cases d <;> simp
theorem oneE_file {f : File} (h : tMay [f] = 0) (r : List Int) : oneE (headF f) (f.2.2 ++ padF f.2.2 ++ r) = 0 ∧ oneR (headF f) (f.2.2 ++ padF f.2.2 ++ r) = r := by
  obtain ⟨-, h1, -, -, h4⟩ := tMay_zero h
  have n1 : nameBad f = false := by have := List.any_eq_false.1 h1 f (List.mem_singleton.2 rfl); simpa using this
  obtain ⟨hs, hi⟩ := nameBad_f n1
  have hl := (of_decide_eq_true (List.all_eq_true.1 h4 f (List.mem_singleton.2 rfl))).2
  have hb := blocksF_le (n := (f.2.2.length : Int)) (by omega)
  have hp : (padF f.2.2).length = (blocksF f.2.2.length * 512 - f.2.2.length).toNat := by unfold padF; exact List.length_replicate
  have e1 : (blocksF f.2.2.length * 512).toNat = f.2.2.length + (padF f.2.2).length := by omega
  have e : oneE (headF f) (f.2.2 ++ padF f.2.2 ++ r) = 0 := by
    unfold oneE
    rw [sumOk_head f hs, oneN_head f hs hl, if_neg (by simp), if_neg (by
      simp only [List.length_append, Bool.true_eq_false, false_or, Int.natCast_add]
      omega)]
    rw [List.append_assoc, oneFl_file h, h]
    rw [if_neg (by
      rw [not_or, not_or]
      refine ⟨by simp, by simp, ?_⟩
      dsimp only
      rw [e1, ← List.append_assoc, List.take_append_of_le_length (by rw [List.length_append]; omega), List.take_of_length_le (by rw [List.length_append]; omega), Int.toNat_natCast, List.drop_append_of_le_length (by omega), List.drop_eq_nil_of_le (by omega), List.nil_append]
      have : zeroF (padF f.2.2) = true := List.all_eq_true.2 fun x hx => by
        unfold padF at hx
        rw [List.eq_of_mem_replicate hx]; rfl
      rw [this]; simp)]
  refine ⟨e, ?_⟩
  unfold oneR
  rw [if_pos e, oneN_head f hs hl]
  dsimp only
  rw [e1, List.drop_append_of_le_length (by rw [List.length_append]; omega), List.drop_eq_nil_of_le (by rw [List.length_append]; omega), List.nil_append]
theorem zero_head {f : File} (hs : f.1.size ≤ 99) : zeroF (headF f) = false := by
  cases hz : zeroF (headF f) with
  | false => rfl
  | true =>
    exfalso
    have hk := kind_head f hs
    have hl := headF_len f hs
    rw [List.getD_eq_getElem?_getD, List.getElem?_eq_getElem (by omega)] at hk
    have := List.all_eq_true.1 hz _ (List.getElem_mem (l := headF f) (n := 156) (by omega))
    have h0 : (headF f)[156]'(by omega) = 0 := by simpa using this
    rw [h0] at hk
    split at hk <;> simp at hk
theorem rdL_arc : ∀ (l : List File) (n : Nat), (∀ f ∈ l, tMay [f] = 0) → l.length < n → rdL n (l.flatMap fileB ++ List.replicate 1024 0) = (0, l, List.replicate 1024 0)
  | [], 0, _, h => by omega
  | [], n + 1, _, _ => by
    rw [rdL, List.flatMap_nil, List.nil_append, if_neg (by rw [List.length_replicate]; omega), if_pos]
    exact List.all_eq_true.2 fun x hx => by
      rw [List.take_replicate] at hx
      rw [List.eq_of_mem_replicate hx]; rfl
  | _ :: _, 0, _, h => by simp at h
  | f :: r, n + 1, h, hn => by
    have ht := h f (List.mem_cons_self ..)
    obtain ⟨-, h1, -, -, -⟩ := tMay_zero ht
    have n1 : nameBad f = false := by have := List.any_eq_false.1 h1 f (List.mem_singleton.2 rfl); simpa using this
    have hs := (nameBad_f n1).1
    have hl := headF_len f hs
    have e : (f :: r).flatMap fileB ++ List.replicate 1024 0 = headF f ++ (f.2.2 ++ padF f.2.2 ++ (r.flatMap fileB ++ List.replicate 1024 0)) := by
      rw [List.flatMap_cons]; unfold fileB; simp only [List.append_assoc]
    have e2 : (headF f ++ (f.2.2 ++ padF f.2.2 ++ (r.flatMap fileB ++ List.replicate 1024 0))).take 512 = headF f := by
      rw [List.take_append_of_le_length (by omega), List.take_of_length_le (by omega)]
    have e3 : (headF f ++ (f.2.2 ++ padF f.2.2 ++ (r.flatMap fileB ++ List.replicate 1024 0))).drop 512 = f.2.2 ++ padF f.2.2 ++ (r.flatMap fileB ++ List.replicate 1024 0) := by
      rw [List.drop_append_of_le_length (by omega), List.drop_eq_nil_of_le (by omega), List.nil_append]
    obtain ⟨g1, g2⟩ := oneE_file ht (r.flatMap fileB ++ List.replicate 1024 0)
    have ih := rdL_arc r n (fun g hg => h g (List.mem_cons_of_mem _ hg)) (by simp only [List.length_cons] at hn; omega)
    rw [e, rdL, e2, e3, if_neg (by rw [List.length_append]; omega), if_neg (by rw [zero_head hs]; simp), if_neg (by rw [g1]; simp), g2, ih]
    have : oneF' (headF f) (f.2.2 ++ padF f.2.2 ++ (r.flatMap fileB ++ List.replicate 1024 0)) = f := by
      unfold oneF'
      rw [if_pos g1, List.append_assoc, oneFl_file ht]
    rw [this]
/-- an archive that is written is read -/
theorem readT_arc {l : List File} (h : tMay l = 0) : readT (arcF l) = (0, l) := by
  have hlen := tMay_len h
  have hpos : l.length < (arcF l).length := by
    have key : ∀ (l : List File), (∀ f ∈ l, f.1.size ≤ 99) → l.length ≤ (l.flatMap fileB).length := by
      intro l
      induction l with
      | nil => intro _; exact Nat.zero_le _
      | cons f r ih =>
        intro hs
        have := ih fun g hg => hs g (List.mem_cons_of_mem _ hg)
        have hl := headF_len f (hs f (List.mem_cons_self ..))
        rw [List.flatMap_cons, List.length_append, List.length_cons]
        unfold fileB at this ⊢
        simp only [List.length_append]
        omega
    have := key l fun f hf => (of_decide_eq_true (List.all_eq_true.1 (tMay_zero h).2.2.2.2 f hf)).1
    unfold arcF
    rw [List.length_append, List.length_replicate]; omega
  have e := rdL_arc l (arcF l).length (fun f hf => tMay_one h hf) hpos
  unfold readT
  have e' : rdL (arcF l).length (arcF l) = (0, l, List.replicate 1024 0) := e
  rw [e', if_neg (by simp), if_neg]
  rw [not_or, not_or]
  refine ⟨by simp, ?_, by omega⟩
  have : zeroF (List.replicate 1024 (0 : Int)) = true := List.all_eq_true.2 fun x hx => by rw [List.eq_of_mem_replicate hx]; rfl
  rw [this]; simp
end Go.Proofs.YtdngaaploooceaaGreatDoor.Sy

/- Plain laws: an image that is written is read: it is the same. -/
set_option maxRecDepth 100000
namespace Go.Proofs.YtdngaaploooceaaGreatDoor.Sy
open Go.RowKit Kit Go.Proofs
theorem w8_eq {n : Int} (h : 0 ≤ n ∧ n ≤ 255) : w8 n = n := by
  have e : IntKind.wrap .u8 n = n % 256 := by simp [IntKind.wrap, IntKind.bits, IntKind.signed]
  unfold w8; omega
theorem w8_mod (n : Int) : w8 n = n % 256 := by
  have e : IntKind.wrap .u8 n = n % 256 := by simp [IntKind.wrap, IntKind.bits, IntKind.signed]
  exact e
theorem hi8_eq (n : Int) : hi8 n = n / 256 % 256 := by
  have e : ∀ n, IntKind.wrap .u8 n = n % 256 := fun n => by simp [IntKind.wrap, IntKind.bits, IntKind.signed]
  unfold hi8
  rw [e, Int.fdiv_eq_ediv_of_nonneg _ (by omega)]; rfl
theorem num2_eq {a b : Int} (ha : 0 ≤ a ∧ a ≤ 255) (hb : 0 ≤ b ∧ b ≤ 255) : num2 a b = a * 256 + b := by
  unfold num2
  rw [wrap_i64n (n := a) (by omega)]
  exact or_sum (k := 8) (by omega) (by omega) (by omega)
theorem num2_two {n : Int} (h : 0 ≤ n ∧ n ≤ 65535) : num2 (hi8 n) (w8 n) = n := by
  rw [hi8_eq, w8_mod, num2_eq (by omega) (by omega)]; omega
/-! ### programs -/
theorem takeF_ok {b r : List Int} {n : Int} (h : (b.length : Int) = n) : takeF (b ++ r, false) n = (b, (r, false)) := by
  unfold takeF
  have e : n.toNat = b.length := by omega
  rw [if_neg (by rw [not_or]; refine ⟨by simp, ?_⟩; rw [List.length_append]; omega), e]
  simp
theorem oneF_cons {x : Int} {r : List Int} (h : 0 ≤ x ∧ x ≤ 255) : oneF (x :: r, false) = (x, (r, false)) := by
  unfold oneF
  have := takeF_ok (b := [x]) (r := r) (n := 1) rfl
  rw [show [x] ++ r = x :: r from rfl] at this
  rw [this]
  show (IntKind.wrap .i64 x, _) = _
  rw [wrap_i64n (by omega)]
theorem namesF_back : ∀ (N : List ByteArray) (r : List Int), N.all (fun s => decide (s.size ≤ 255)) = true → namesF N.length (N.flatMap nameB ++ r, false) = (N, (r, false))
  | [], r, _ => rfl
  | s :: N, r, h => by
    rw [List.all_cons, Bool.and_eq_true, decide_eq_true_eq] at h
    have hs := strB_length s
    have ih := namesF_back N r h.2
    have e : (s :: N).flatMap nameB ++ r = w8 s.size :: (strB s ++ (N.flatMap nameB ++ r)) := by
      rw [List.flatMap_cons]; unfold nameB; simp
    rw [e, List.length_cons, namesF, w8_eq (by omega), oneF_cons (by omega)]
    dsimp only
    rw [takeF_ok (by omega)]
    dsimp only
    rw [ih, txt_strB]
theorem lookI_mem {x : Int} {v : Int × Int × Int} : ∀ {l : List (Int × (Int × Int × Int))}, lookI x l = some v → (x, v) ∈ l
  | [], h => by cases h
  | (k, w) :: r, h => by
    rw [lookI] at h
    split at h
    · rename_i hk; subst hk; cases h; exact List.mem_cons_self ..
    · exact List.mem_cons_of_mem _ (lookI_mem h)
theorem iTab_range {x : Int} {v : Int × Int × Int} (h : iTab x = some v) : 1 ≤ x ∧ x ≤ 41 ∧ v.2.2 ≤ 65536 := by
  have hall : iTabL.all (fun p => decide (1 ≤ p.1 ∧ p.1 ≤ 41 ∧ p.2.2.2 ≤ 65536)) = true := by decide +kernel
  exact of_decide_eq_true (List.all_eq_true.1 hall _ (lookI_mem h))
theorem iMay_range {i : Int × Int} (h : iMay i = true) : (1 ≤ i.1 ∧ i.1 ≤ 41) ∧ 0 ≤ i.2 ∧ i.2 ≤ 65535 := by
  unfold iMay at h
  cases hk : iTab i.1 with
  | none => rw [hk] at h; cases h
  | some k =>
    rw [hk] at h
    have := iTab_range hk
    simp only [Bool.and_eq_true, decide_eq_true_eq] at h
    omega
theorem instsF_back : ∀ (L : List (Int × Int)) (r : List Int), L.all iMay = true → instsF L.length (L.flatMap instB ++ r, false) = (L, (r, false))
  | [], r, _ => rfl
  | i :: L, r, h => by
    rw [List.all_cons, Bool.and_eq_true] at h
    have ih := instsF_back L r h.2
    obtain ⟨h1, h2⟩ := iMay_range h.1
    have e : (i :: L).flatMap instB ++ r = instB i ++ (L.flatMap instB ++ r) := by
      rw [List.flatMap_cons, List.append_assoc]
    rw [e, List.length_cons, instsF, takeF_ok (n := 3) rfl]
    dsimp only
    rw [ih]
    have : instF (instB i) = i := by
      show (IntKind.wrap .i64 (w8 i.1), num2 (hi8 i.2) (w8 i.2)) = i
      rw [w8_eq (by omega), wrap_i64n (by omega), num2_two h2]
    rw [this]
theorem read_back {p : Prog} (h : pMay p = 0) : readE (pBytes p) = 0 ∧ readP (pBytes p) = p := by
  obtain ⟨L, N⟩ := p
  obtain ⟨h1, h2, h3, h4⟩ := pMay_zero (L := L) (N := N) h
  have hb : pBytes (L, N) = 88 :: (82 :: ((N.length : Int) :: (N.flatMap nameB ++ ((L.length : Int) :: (L.flatMap instB ++ []))))) := by
    unfold pBytes
    rw [w8_eq (n := ((L, N) : Prog).2.length) (by dsimp only; omega), w8_eq (n := ((L, N) : Prog).1.length) (by dsimp only; omega)]
    simp
  have f1 := oneF_cons (x := 88) (r := 82 :: ((N.length : Int) :: (N.flatMap nameB ++ ((L.length : Int) :: (L.flatMap instB ++ []))))) (by omega)
  have f2 := oneF_cons (x := 82) (r := (N.length : Int) :: (N.flatMap nameB ++ ((L.length : Int) :: (L.flatMap instB ++ [])))) (by omega)
  have f3 := oneF_cons (x := (N.length : Int)) (r := N.flatMap nameB ++ ((L.length : Int) :: (L.flatMap instB ++ []))) (by omega)
  have f4 := oneF_cons (x := (L.length : Int)) (r := L.flatMap instB ++ []) (by omega)
  have hF : readF (pBytes (L, N)) = ((L, N), ([], false)) := by
    unfold readF
    rw [hb, f1]
    dsimp only
    rw [f2]
    dsimp only
    rw [f3]
    dsimp only
    rw [Int.toNat_natCast, namesF_back N _ h3]
    dsimp only
    rw [f4]
    dsimp only
    rw [Int.toNat_natCast, instsF_back L _ h4]
  have hE : readE (pBytes (L, N)) = 0 := by
    have hbad : readBad (pBytes (L, N)) = false := by
      unfold readBad
      rw [hb, f1]
      dsimp only
      rw [f2]
      rfl
    unfold readE
    rw [hbad, hF, if_neg (by simp), if_neg (by simp)]
    exact h
  refine ⟨hE, ?_⟩
  unfold readP
  rw [if_pos hE, hF]
/-! ### traces -/
theorem truth_one (b : Bool) : (truth b == 1) = b := by cases b <;> rfl
def trcR (t : Trc) : Bool := t.1.all (fun e => decide (0 ≤ e.2 ∧ e.2 ≤ 65535)) && decide (0 ≤ t.2.2 ∧ t.2.2 ≤ 65535)
theorem wrap_u16 {n : Int} (h : 0 ≤ n ∧ n ≤ 65535) : IntKind.wrap .u16 n = n := by
  have e : IntKind.wrap .u16 n = n % 65536 := by simp [IntKind.wrap, IntKind.bits, IntKind.signed]
  omega
theorem evF_back {e : Bool × Int} (h : 0 ≤ e.2 ∧ e.2 ≤ 65535) (r : List Int) : evF (evB e ++ r) = e := by
  show (truth e.1 == 1, IntKind.wrap .u16 (num2 (hi8 (IntKind.wrap .i64 e.2)) (w8 (IntKind.wrap .i64 e.2)))) = e
  rw [truth_one, wrap_i64n (by omega), num2_two h, wrap_u16 h]
theorem unL_back : ∀ (L : List (Bool × Int)) (n : Nat) (r : List Int), L.all (fun e => decide (0 ≤ e.2 ∧ e.2 ≤ 65535)) = true → r.length = 3 → L.length ≤ n → unL n (L.flatMap evB ++ r) = (L, r)
  | [], n, r, _, hr, _ => unL_less (by rw [List.flatMap_nil, List.nil_append]; omega)
  | e :: L, 0, r, _, _, hn => by simp at hn
  | e :: L, n + 1, r, h, hr, hn => by
    rw [List.all_cons, Bool.and_eq_true, decide_eq_true_eq] at h
    have ih := unL_back L n r h.2 hr (by simp only [List.length_cons] at hn; omega)
    have e1 : (e :: L).flatMap evB ++ r = evB e ++ (L.flatMap evB ++ r) := by rw [List.flatMap_cons, List.append_assoc]
    have e2 : (evB e ++ (L.flatMap evB ++ r)).drop 3 = L.flatMap evB ++ r := rfl
    rw [e1, unL, if_pos (by simp [evB, twoF]; omega), e2, ih, evF_back h.1]
theorem untrace_back {t : Trc} (hr : trcR t = true) (he : 0 ≤ t.2.1 ∧ t.2.1 ≤ 255) : untraceF (traceF t) = t := by
  obtain ⟨L, E, c⟩ := t
  simp only [trcR, Bool.and_eq_true, decide_eq_true_eq] at hr
  have e : traceF (L, E, c) = L.flatMap evB ++ ([w8 E] ++ twoF (IntKind.wrap .i64 c)) := by unfold traceF; rw [List.append_assoc]
  have hl : L.length ≤ (L.flatMap evB ++ ([w8 E] ++ twoF (IntKind.wrap .i64 c))).length := by
    have : ∀ L : List (Bool × Int), L.length ≤ (L.flatMap evB).length := by
      intro L
      induction L with
      | nil => exact Nat.zero_le _
      | cons x r ih => rw [List.flatMap_cons, List.length_append, List.length_cons]; simp only [evB, twoF, List.length_append, List.length_cons, List.length_nil]; omega
    have := this L
    rw [List.length_append]; omega
  have hu := unL_back L _ ([w8 E] ++ twoF (IntKind.wrap .i64 c)) hr.1 rfl hl
  rw [e]
  unfold untraceF
  rw [hu, if_pos (show ([w8 E] ++ twoF (IntKind.wrap .i64 c)).length = 3 from rfl)]
  show (L, IntKind.wrap .i64 (w8 E), IntKind.wrap .u16 (num2 (hi8 (IntKind.wrap .i64 c)) (w8 (IntKind.wrap .i64 c)))) = _
  rw [w8_eq he, wrap_i64n (n := E) (by dsimp only at he; omega), wrap_i64n (n := c) (by omega), num2_two hr.2, wrap_u16 hr.2]
/-! ### trees and arguments -/
theorem cutP_pre (p x : ByteArray) : cutP (p ++ x) p = (x, true) := by
  unfold cutP
  have hs : (p ++ x).size = p.size + x.size := ByteArray.size_append
  rw [if_pos ⟨by omega, ByteArray.extract_append_eq_left rfl⟩, hs, ByteArray.extract_append_eq_right rfl rfl]
theorem cutP_args (x : ByteArray) : (cutP (bs "args/" ++ x) (bs "tree/")).2 = false := by
  unfold cutP
  rw [if_neg]
  rintro ⟨-, h⟩
  have h5 : (bs "tree/").size = (bs "args/").size := by decide +kernel
  rw [h5, ByteArray.extract_append_eq_left rfl] at h
  exact absurd h (by decide +kernel)
/-- a tree whose files may have no bytes -/
def zCap (t : List Ent) : List Ent := t.map fun x => (x.1, x.2.1, 0)
theorem fold_tree : ∀ (t : List Ent) (fs : List (List Int)) (a : Acc), fs.length = (capsF t).length → (treeFs t fs).foldl addF a = (a.1 ++ zCap t, a.2.1, a.2.2.1 ++ fs, a.2.2.2)
  | [], fs, a, h => by
    have : fs = [] := List.length_eq_zero_iff.1 (by rw [h]; rfl)
    subst this
    show a = _
    simp [zCap]
  | x :: r, fs, a, h => by
    rw [treeFs_cons]
    rw [capsF] at h
    cases hd : x.2.1 with
    | true =>
      rw [hd] at h
      rw [if_pos rfl, List.foldl_cons, fold_tree r fs _ (by simpa using h)]
      unfold addF
      rw [cutP_pre]
      simp [zCap, hd]
    | false =>
      rw [hd] at h
      cases fs with
      | nil => simp at h
      | cons b fs =>
        rw [if_neg (by simp), List.foldl_cons, List.tail_cons, fold_tree r fs _ (by simpa using h)]
        unfold addF
        rw [cutP_pre]
        simp [zCap, hd]
theorem fold_args : ∀ (l : List (List Int)) (k : Int) (a : Acc), (argFs k l).foldl addF a = (a.1, a.2.1 ++ List.replicate l.length 0, a.2.2.1, a.2.2.2 ++ l)
  | [], k, a => by
    show a = _
    simp
  | x :: r, k, a => by
    rw [argFs, List.foldl_cons, fold_args r]
    unfold addF
    rw [cutP_args]
    simp [List.replicate_succ]
theorem filesK_zCap : ∀ (t : List Ent) (k : Int), filesK k (zCap t) = filesK k t
  | [], _ => rfl
  | x :: r, k => by
    have ih := filesK_zCap r (k + 1)
    unfold zCap at ih ⊢
    rw [List.map_cons, filesK, filesK, ih]
theorem setAt_back : ∀ (t pre : List Ent) (r : List Int), t.all entOk = true → setAt (pre ++ zCap t) (filesK pre.length t) ((capsF t).map w8 ++ r) = pre ++ t
  | [], pre, r, _ => by simp [zCap, filesK, setAt]
  | x :: t, pre, r, h => by
    rw [List.all_cons, Bool.and_eq_true] at h
    obtain ⟨p, d, c⟩ := x
    have hx := h.1
    simp only [entOk, Bool.and_eq_true, decide_eq_true_eq, Bool.not_eq_true', Bool.and_eq_false_iff] at hx
    have ih := fun y => setAt_back t (pre ++ [y]) r h.2
    have e : ∀ y : Ent, pre ++ [y] ++ zCap t = pre ++ y :: zCap t := fun y => by simp
    have ek : ∀ y : Ent, ((pre ++ [y]).length : Int) = (pre.length : Int) + 1 := fun y => by simp
    rw [filesK, capsF]
    show setAt (pre ++ (p, d, 0) :: zCap t) _ _ = _
    cases d with
    | true =>
      have hc : c = 0 := by rcases hx.2 with h' | h' <;> simp at h'; exact h'
      subst hc
      have := ih (p, true, 0)
      rw [e, ek] at this
      rw [if_pos rfl, if_pos rfl, this]; simp
    | false =>
      have := ih (p, false, c)
      rw [e, ek] at this
      rw [if_neg (by simp), if_neg (by simp), List.map_cons, List.cons_append, setAt]
      have hg : (pre ++ (p, false, (0 : Int)) :: zCap t).getD (pre.length : Int).toNat (ByteArray.empty, false, 0) = (p, false, 0) := by
        rw [Int.toNat_natCast, List.getD_eq_getElem?_getD, List.getElem?_append_right (by omega)]; simp
      rw [hg, Int.toNat_natCast]
      have hset : (pre ++ (p, false, (0 : Int)) :: zCap t).set pre.length (p, false, IntKind.wrap .i64 ((w8 c :: ((capsF t).map w8 ++ r)).getD 0 0)) = pre ++ (p, false, c) :: zCap t := by
        show (pre ++ (p, false, (0 : Int)) :: zCap t).set pre.length (p, false, IntKind.wrap .i64 (w8 c)) = _
        rw [w8_eq (by omega), wrap_i64n (by omega), List.set_append_right _ _ (Nat.le_refl _), Nat.sub_self, List.set_cons_zero]
      rw [hset, List.drop_succ_cons, List.drop_zero, this]; simp
theorem map_w8 {l : List Int} (h : l.all capOk = true) : (l.map w8).map (IntKind.wrap .i64) = l := by
  rw [List.map_map]
  conv => rhs; rw [← List.map_id l]
  refine List.map_congr_left fun x hx => ?_
  have := List.all_eq_true.1 h x hx
  simp only [capOk, Bool.and_eq_true, decide_eq_true_eq] at this
  show IntKind.wrap .i64 (w8 x) = x
  rw [w8_eq (by omega), wrap_i64n (by omega)]
theorem unkF_back {c : Cls} (h : cMay c = true) : unkF (zCap c.1, List.replicate c.2.1.length 0, 0, 0, 0) (kindF c) = (true, c) := by
  obtain ⟨t, ar, c1, c2, c3⟩ := c
  obtain ⟨g1, g2, g3, g4, g5, g6, g7, g8⟩ := cMay_f h
  dsimp only at *
  have hk : kindF (t, ar, c1, c2, c3) = c1 :: c2 :: hi8 c3 :: w8 c3 :: ((capsF t).map w8 ++ ar.map w8) := by
    unfold kindF capsC twoF
    dsimp only
    rw [w8_eq (n := c1) (by omega), w8_eq (n := c2) (by omega), List.map_append]; rfl
  have hc := capsF_files t
  rw [hk]
  unfold unkF
  dsimp only
  rw [filesK_zCap, if_neg (by simp), if_neg (by simp [hc])]
  have hs := setAt_back t [] (ar.map w8) g4
  simp only [List.nil_append, List.length_nil, Int.natCast_zero] at hs
  have hd : (c1 :: c2 :: hi8 c3 :: w8 c3 :: ((capsF t).map w8 ++ ar.map w8)).drop 4 = (capsF t).map w8 ++ ar.map w8 := rfl
  rw [hd]
  rw [show setAt (zCap t) (filesK 0 t) ((capsF t).map w8 ++ ar.map w8) = t from hs]
  rw [List.drop_append_of_le_length (by rw [List.length_map]; omega), List.drop_eq_nil_of_le (by rw [List.length_map]; omega), List.nil_append, map_w8 g5]
  show (true, t, ar, IntKind.wrap .i64 c1, IntKind.wrap .i64 c2, num2 (hi8 c3) (w8 c3)) = _
  rw [wrap_i64n (n := c1) (by omega), wrap_i64n (n := c2) (by omega), num2_two (by omega)]
/-! ### images -/
/-- its numbers are of their kinds -/
def imgR (m : Img) : Bool := imgU m && trcR m.2.2.2
theorem writeE_f {m : Img} (h : writeE m = 0) : pMay m.1 = 0 ∧ cMay m.2.1 = true ∧ cHas m.2.1 m.2.2.1 = true ∧ traceBad m.2.2.2 = false ∧ tMay (imgFs m) = 0 := by
  unfold writeE at h
  split at h
  · rename_i h'; exact absurd h h'
  rename_i h1
  split at h
  · exact absurd h (by decide)
  rename_i h2
  split at h
  · exact absurd h (by decide)
  rename_i h3
  split at h
  · exact absurd h (by decide)
  rename_i h4
  exact ⟨by simpa using h1, by simpa using h2, by simpa using h3, by simpa using h4, h⟩
theorem made_back {m : Img} (h : writeE m = 0) (hr : trcR m.2.2.2 = true) : madeF (imgFs m) = (true, m) := by
  obtain ⟨h1, h2, h3, h4, -⟩ := writeE_f h
  obtain ⟨p, c, i, t⟩ := m
  obtain ⟨ff, fa, fb⟩ := i
  dsimp only at *
  obtain ⟨g1, g2, g3, g4, g5⟩ := cHas_f h3
  dsimp only at g2 g3
  have hmid : ∀ (a x y z : File) (M : List File), mids ((a :: M) ++ [x, y, z]) = M ∧ ((a :: M) ++ [x, y, z]).getD 0 dF = a ∧ ((a :: M) ++ [x, y, z]).getD (((a :: M) ++ [x, y, z]).length - 3) dF = x ∧ ((a :: M) ++ [x, y, z]).getD (((a :: M) ++ [x, y, z]).length - 2) dF = y ∧ ((a :: M) ++ [x, y, z]).getD (((a :: M) ++ [x, y, z]).length - 1) dF = z := by
    intro a x y z M
    have hl : ((a :: M) ++ [x, y, z]).length = (a :: M).length + 3 := by simp
    refine ⟨?_, rfl, ?_, ?_, ?_⟩
    · unfold mids
      rw [hl, Nat.add_sub_cancel, List.take_left']
      · rfl
      · rfl
    all_goals
      rw [hl, List.getD_eq_getElem?_getD, List.getElem?_append_right (by omega)]
      simp
  have hi : imgFs (p, c, (ff, fa, fb), t) = ((bs "prog", false, pBytes p) :: (treeFs c.1 ff ++ argFs 0 fa)) ++ [(bs "fails", false, fb.map truth), (bs "class", false, kindF c), (bs "trace", false, traceF t)] := by
    unfold imgFs filesF
    simp
  obtain ⟨m1, m2, m3, m4, m5⟩ := hmid (bs "prog", false, pBytes p) (bs "fails", false, fb.map truth) (bs "class", false, kindF c) (bs "trace", false, traceF t) (treeFs c.1 ff ++ argFs 0 fa)
  have hacc : accF (imgFs (p, c, (ff, fa, fb), t)) = (zCap c.1, List.replicate c.2.1.length 0, ff, fa) := by
    unfold accF
    rw [hi, m1, List.foldl_append, fold_tree _ _ _ (by rw [g2, capsF_files]), fold_args]
    simp [g3]
  obtain ⟨r1, r2⟩ := read_back h1
  have hunk : unkOf (imgFs (p, c, (ff, fa, fb), t)) = (true, c) := by
    unfold unkOf
    rw [hacc, hi, m4]
    exact unkF_back h2
  have hb : 1 ≤ t.2.1 ∧ t.2.1 ≤ 5 := by
    simp only [traceBad, Bool.or_eq_false_iff, decide_eq_false_iff_not] at h4
    omega
  unfold madeF made2
  rw [hunk, hacc, hi, m2, m3, m5]
  dsimp only
  rw [r1, r2, if_neg (by simp; omega), untrace_back hr (by omega), List.map_map]
  have : (fun x : Int => x == 1) ∘ truth = id := by funext b; exact truth_one b
  rw [this, List.map_id]
/-- what is written is read, and is the same -/
theorem readI_round {m : Img} (h : writeE m = 0) (hr : trcR m.2.2.2 = true) : readI (writeB m) = (0, m) := by
  have h5 := (writeE_f h).2.2.2.2
  have e : readT (writeB m) = (0, imgFs m) := readT_arc h5
  unfold readI
  rw [e, made_back h hr]
  dsimp only
  rw [if_neg (by simp), if_neg (by simp), if_neg (by rw [h]; simp)]
theorem writeB_inj {m n : Img} (hm : writeE m = 0) (hn : writeE n = 0) (rm : trcR m.2.2.2 = true) (rn : trcR n.2.2.2 = true) (h : writeB m = writeB n) : m = n := by
  have a := readI_round hm rm
  have b := readI_round hn rn
  rw [h, b] at a
  exact (Prod.mk.inj a).2.symm
end Go.Proofs.YtdngaaploooceaaGreatDoor.Sy

/- Contracts: whether two are the same. -/
set_option maxRecDepth 100000
namespace Go.Proofs.YtdngaaploooceaaGreatDoor.Sy
open Go.RowKit Kit Go.Proofs
/-- from place k on they are the same -/
def sameAt {α : Type} [DecidableEq α] (a b : List α) (k : Nat) : Bool := decide (a.drop k = b.drop k)
theorem sameAt_step {α : Type} [DecidableEq α] {a b : List α} {k : Nat} (d : α) (ha : k < a.length) (hb : k < b.length) : sameAt a b k = (decide (a.getD k d = b.getD k d) && sameAt a b (k + 1)) := by
  unfold sameAt
  rw [Bool.eq_iff_iff, Bool.and_eq_true, decide_eq_true_iff, decide_eq_true_iff, decide_eq_true_iff, drop_at a k d ha, drop_at b k d hb, List.cons.injEq]
theorem sameAt_end {α : Type} [DecidableEq α] {a b : List α} {k : Nat} (ha : a.length ≤ k) (hb : b.length ≤ k) : sameAt a b k = true := by
  unfold sameAt
  rw [List.drop_eq_nil_of_le ha, List.drop_eq_nil_of_le hb]; exact decide_eq_true rfl
theorem eqB (x y : Bool) : (x == y) = decide (x = y) := by cases x <;> cases y <;> rfl
theorem eqI2 (x y : Int × Int) : ((x.1 == y.1) && ((x.2 == y.2) && true)) = decide (x = y) := by
  rw [Bool.eq_iff_iff]; simp [Prod.ext_iff]
theorem txt_inj2 {a b : List Int} (ha : u8s a = true) (hb : u8s b = true) : txt a = txt b ↔ a = b := by
  refine ⟨fun h => ?_, fun h => by rw [h]⟩
  have key : ∀ l : List Int, u8s l = true → strB (txt l) = l := fun l hl => by
    unfold strB txt strOfNums
    rw [List.toList_toArray, List.map_map]
    conv => rhs; rw [← List.map_id l]
    refine List.map_congr_left fun x hx => ?_
    have := u8_iff.1 (List.all_eq_true.1 hl x hx)
    show ((UInt8.ofNat x.toNat).toNat : Int) = x
    rw [UInt8.toNat_ofNat_of_lt' (by show x.toNat < 256; omega)]; omega
  rw [← key a ha, ← key b hb, h]
def CE : Cx := ⟨T, FL, [], [], []⟩
theorem CE_ok : CxOk Tryz.prog CE := ⟨T_ok, FL_ok, .nil _, .nil _⟩
noncomputable def fn33 := mkFn Tryz.f33
def q33 : Frm := ⟨26, [(0, .dat (.sl .bool)), (1, .dat (.sl .bool)), (5, .dat tI)], []⟩
def R33 : q33.V → Tr (Ex × St) := fun (((a : List Bool), (b : List Bool), (k : Int), _), _) =>
  .need (decide (0 ≤ k ∧ k ≤ a.length ∧ a.length = b.length ∧ (a.length : Int) ≤ 9223372036854775807)) (.ite (sameAt a b k.toNat) (.ret (.ex 0, ⟨26, [], []⟩)) (.ret (.rt, ⟨26, [(4, .e (.c (.kb false)))], []⟩)))
def lp33 : LP := [(0, sumP q33 R33)]
theorem lp33_ok : LpsOk 0 CE [] lp33 fn33.loops := by
  refine .all (by kernel_rfl) ?_
  simp only [lp33, List.forall_mem_cons, List.not_mem_nil, false_imp_iff, implies_true, and_true]
  refine .pat q33 R33 (fun v => (v.1.1.length - v.1.2.2.1).toNat) ?_
  rintro ⟨⟨(a : List Bool), (b : List Bool), (k : Int), ⟨⟩⟩, ⟨⟩⟩ ih
  refine Gives.run (t' := .ite (decide (k < (((List.length a) : Nat) : Int))) (.need (inR k (List.length a)) (.need (inR k (List.length b)) (.ite (!((List.getD a (Int.toNat k) false) == (List.getD b (Int.toNat k) false))) (.ret (.rt, ⟨26, [(4, .e (.c (.kb false)))], []⟩)) (.need (decide (((-(9223372036854775808 : Int) : Int) ≤ (k + (1 : Int) : Int)) ∧ ((k + (1 : Int) : Int) ≤ (9223372036854775807 : Int)))) (.ret (.nx, ⟨26, [(0, rL Ty.bool a), (1, rL Ty.bool b), (5, rI (k + (1 : Int) : Int))], []⟩)))))) (.ret (.ex 0, ⟨26, [], []⟩))) (by kernel_rfl) ?_
  refine .rnd fun ⟨h1, h2, h3, h4⟩ => ?_
  refine .lif (fun hk => ?_) (fun hk => ?_)
  · have e : (k + 1).toNat = k.toNat + 1 := by omega
    refine .lneed (inR_of h1 (by omega)) (.lneed (inR_of h1 (by omega)) ?_)
    rw [sameAt_step false (a := a) (b := b) (by omega) (by omega)]
    refine .lite (fun hx => ?_) (fun hx => ?_)
    · rw [eqB, Bool.not_eq_true'] at hx
      exact .rff (by rw [hx]; rfl) (.refl _)
    · rw [eqB, Bool.not_eq_false'] at hx
      refine .rb (by rw [hx, Bool.true_and]) (.lnd (by omega) ?_)
      refine Gives.next (σ' := q33.st ((a, b, k + 1, ()), ())) (by kernel_rfl) ((ih ((a, b, k + 1, ()), ()) (by simp only; omega)).trans ?_)
      refine .nd ⟨by omega, by omega, h3, h4⟩ ?_
      rw [e]; exact .refl _
  · rw [sameAt_end (by omega) (by omega)]; exact .rtt rfl (.refl _)
theorem sameB_ok : CtrOk Tryz.prog 33 (ctr (two (aVal (.sl .bool)) (aVal (.sl .bool))) fun a => ans (rB (decide (a.1 = a.2.1)))) := by
  refine .mk CE_ok mixed (q := fn33) (.of Tryz.func33 (by kernel_rfl)) lp33_ok (by decide) ?_
  rintro ⟨(a : List Bool), (b : List Bool), ⟨⟩⟩ hb
  refine Gives.of_eq (t' := .ite ((((List.length a) : Nat) : Int) != (((List.length b) : Nat) : Int)) (.ret (rB false, ⟨0, [], []⟩)) (.need (decide (((0 : Int) ≤ (0 : Int)) ∧ (((0 : Int) ≤ (((List.length a) : Nat) : Int)) ∧ (((List.length a) = (List.length b)) ∧ ((((List.length a) : Nat) : Int) ≤ (9223372036854775807 : Int)))))) (.ite (sameAt a b 0) (.ret (rB true, ⟨0, [], []⟩)) (.ret (rB false, ⟨0, [], []⟩))))) (by kernel_rfl) ?_
  show Gives _ (.ret (rB (decide (a = b)), St.nil))
  refine .ite (fun h => ?_) (fun h => ?_)
  · rw [decide_eq_false (fun e => by subst e; simp at h)]; exact .refl _
  have h : a.length = b.length := by have := bne_eq_false_iff_eq.1 h; omega
  have hl : a.length ≤ 9223372036854775807 := hb.1.1
  refine .nd ⟨by omega, by omega, h, by omega⟩ (.ite (fun h' => ?_) (fun h' => ?_))
  · unfold sameAt at h'; rw [List.drop_zero, List.drop_zero] at h'; rw [h']; exact .refl _
  · unfold sameAt at h'; rw [List.drop_zero, List.drop_zero] at h'; rw [h']; exact .refl _
noncomputable def fn32 := mkFn Tryz.f32
def q32 : Frm := ⟨28, [(0, .dat (.sl tB)), (1, .dat (.sl tB)), (5, .dat tI)], []⟩
def R32 : q32.V → Tr (Ex × St) := fun (((a : List (List Int)), (b : List (List Int)), (k : Int), _), _) =>
  .need (decide ((0 ≤ k ∧ k ≤ a.length ∧ a.length = b.length ∧ (a.length : Int) ≤ 9223372036854775807) ∧ a.all u8s = true ∧ b.all u8s = true)) (.ite (sameAt a b k.toNat) (.ret (.ex 0, ⟨28, [], []⟩)) (.ret (.rt, ⟨28, [(4, .e (.c (.kb false)))], []⟩)))
def lp32 : LP := [(0, sumP q32 R32)]
theorem lp32_ok : LpsOk 0 CE [] lp32 fn32.loops := by
  refine .all (by kernel_rfl) ?_
  simp only [lp32, List.forall_mem_cons, List.not_mem_nil, false_imp_iff, implies_true, and_true]
  refine .pat q32 R32 (fun v => (v.1.1.length - v.1.2.2.1).toNat) ?_
  rintro ⟨⟨(a : List (List Int)), (b : List (List Int)), (k : Int), ⟨⟩⟩, ⟨⟩⟩ ih
  refine Gives.run (t' := .ite (decide (k < (((List.length a) : Nat) : Int))) (.need (inR k (List.length a)) (.need true (.need (inR k (List.length b)) (.need true (.ite (!(decide ((txt (List.getD a (Int.toNat k) ([] : List Int))) = (txt (List.getD b (Int.toNat k) ([] : List Int)))))) (.ret (.rt, ⟨28, [(4, .e (.c (.kb false)))], []⟩)) (.need (decide (((-(9223372036854775808 : Int) : Int) ≤ (k + (1 : Int) : Int)) ∧ ((k + (1 : Int) : Int) ≤ (9223372036854775807 : Int)))) (.ret (.nx, ⟨28, [(0, rL tB a), (1, rL tB b), (5, rI (k + (1 : Int) : Int))], []⟩)))))))) (.ret (.ex 0, ⟨28, [], []⟩))) (by kernel_rfl) ?_
  refine .rnd fun ⟨⟨h1, h2, h3, h4⟩, h5, h6⟩ => ?_
  refine .lif (fun hk => ?_) (fun hk => ?_)
  · have e : (k + 1).toNat = k.toNat + 1 := by omega
    refine .lneed (inR_of h1 (by omega)) (.lneed rfl (.lneed (inR_of h1 (by omega)) (.lneed rfl ?_)))
    have ua := List.all_eq_true.1 h5 _ (List.getElem_mem (show k.toNat < a.length by omega))
    have ub := List.all_eq_true.1 h6 _ (List.getElem_mem (show k.toNat < b.length by omega))
    rw [show a[k.toNat]'(by omega) = a.getD k.toNat [] by simp [List.getD_eq_getElem?_getD, List.getElem?_eq_getElem (show k.toNat < a.length by omega)]] at ua
    rw [show b[k.toNat]'(by omega) = b.getD k.toNat [] by simp [List.getD_eq_getElem?_getD, List.getElem?_eq_getElem (show k.toNat < b.length by omega)]] at ub
    have eqT : decide (txt (a.getD k.toNat []) = txt (b.getD k.toNat [])) = decide (a.getD k.toNat [] = b.getD k.toNat []) := by
      rw [Bool.eq_iff_iff, decide_eq_true_iff, decide_eq_true_iff]; exact txt_inj2 ua ub
    rw [sameAt_step [] (a := a) (b := b) (by omega) (by omega)]
    refine .lite (fun hx => ?_) (fun hx => ?_)
    · rw [eqT, Bool.not_eq_true'] at hx
      exact .rff (by rw [hx]; rfl) (.refl _)
    · rw [eqT, Bool.not_eq_false'] at hx
      refine .rb (by rw [hx, Bool.true_and]) (.lnd (by omega) ?_)
      refine Gives.next (σ' := q32.st ((a, b, k + 1, ()), ())) (by kernel_rfl) ((ih ((a, b, k + 1, ()), ()) (by simp only; omega)).trans ?_)
      refine .nd ⟨⟨by omega, by omega, h3, h4⟩, h5, h6⟩ ?_
      rw [e]; exact .refl _
  · rw [sameAt_end (by omega) (by omega)]; exact .rtt rfl (.refl _)
theorem sameT_ok : CtrOk Tryz.prog 32 (ctr (two (aVal (.sl tB)) (aVal (.sl tB))) fun a => .need (a.1.all u8s && a.2.1.all u8s) (ans (rB (decide (a.1 = a.2.1))))) := by
  refine .mk CE_ok mixed (q := fn32) (.of Tryz.func32 (by kernel_rfl)) lp32_ok (by decide) ?_
  rintro ⟨(a : List (List Int)), (b : List (List Int)), ⟨⟩⟩ hb
  refine Gives.of_eq (t' := .ite ((((List.length a) : Nat) : Int) != (((List.length b) : Nat) : Int)) (.ret (rB false, ⟨0, [], []⟩)) (.need (decide ((((0 : Int) ≤ (0 : Int)) ∧ (((0 : Int) ≤ (((List.length a) : Nat) : Int)) ∧ (((List.length a) = (List.length b)) ∧ ((((List.length a) : Nat) : Int) ≤ (9223372036854775807 : Int))))) ∧ (((List.all a u8s) = true) ∧ ((List.all b u8s) = true)))) (.ite (sameAt a b 0) (.ret (rB true, ⟨0, [], []⟩)) (.ret (rB false, ⟨0, [], []⟩))))) (by kernel_rfl) ?_
  show Gives _ (.need (a.all u8s && b.all u8s) (.ret (rB (decide (a = b)), St.nil)))
  refine .rneed fun hu => ?_
  rw [Bool.and_eq_true] at hu
  refine .ite (fun h => ?_) (fun h => ?_)
  · rw [decide_eq_false (fun e => by subst e; simp at h)]; exact .refl _
  have h : a.length = b.length := by have := bne_eq_false_iff_eq.1 h; omega
  have hl : a.length ≤ 9223372036854775807 := hb.1.1
  refine .nd ⟨⟨by omega, by omega, h, by omega⟩, hu.1, hu.2⟩ (.ite (fun h' => ?_) (fun h' => ?_))
  · unfold sameAt at h'; rw [List.drop_zero, List.drop_zero] at h'; rw [h']; exact .refl _
  · unfold sameAt at h'; rw [List.drop_zero, List.drop_zero] at h'; rw [h']; exact .refl _
noncomputable def fn13 := mkFn Tryz.f13
def q13a : Frm := ⟨59, [(2, .ptr tProg), (3, .ptr tProg), (5, .dat tI)], []⟩
def R13a : q13a.V → Tr (Ex × St) := fun (((a : tProg.El), (b : tProg.El), (k : Int), _), _) =>
  .need (decide (0 ≤ k ∧ k ≤ a.1.length ∧ a.1.length = b.1.length ∧ (a.1.length : Int) ≤ 9223372036854775807)) (.ite (sameAt a.1 b.1 k.toNat) (.ret (.ex 0, ⟨59, [(2, .e (.c (.dp (split tProg a)))), (3, .e (.c (.dp (split tProg b))))], []⟩)) (.ret (.rt, ⟨59, [(4, .e (.c (.kb false)))], []⟩)))
def q13b : Frm := ⟨59, [(2, .ptr tProg), (3, .ptr tProg), (6, .dat tI)], []⟩
def R13b : q13b.V → Tr (Ex × St) := fun (((a : tProg.El), (b : tProg.El), (k : Int), _), _) =>
  .need (decide (0 ≤ k ∧ k ≤ a.2.length ∧ a.2.length = b.2.length ∧ (a.2.length : Int) ≤ 9223372036854775807)) (.ite (sameAt a.2 b.2 k.toNat) (.ret (.ex 2, ⟨59, [], []⟩)) (.ret (.rt, ⟨59, [(4, .e (.c (.kb false)))], []⟩)))
def lp13 : LP := [(0, sumP q13a R13a), (2, sumP q13b R13b)]
theorem lp13_ok : LpsOk 0 CE [] lp13 fn13.loops := by
  refine .all (by kernel_rfl) ?_
  simp only [lp13, List.forall_mem_cons, List.not_mem_nil, false_imp_iff, implies_true, and_true]
  constructor
  · refine .pat q13a R13a (fun v => (v.1.1.1.length - v.1.2.2.1).toNat) ?_
    rintro ⟨⟨⟨(aL : List (Int × Int)), (aN : List ByteArray)⟩, ⟨(bL : List (Int × Int)), (bN : List ByteArray)⟩, (k : Int), ⟨⟩⟩, ⟨⟩⟩ ih
    refine Gives.run (t' := .ite (decide (k < (((List.length aL) : Nat) : Int))) (.need (inR k (List.length aL)) (.need true (.need (inR k (List.length bL)) (.need true (.ite (!((((List.getD aL (Int.toNat k) ((0 : Int), (0 : Int)))).1 == ((List.getD bL (Int.toNat k) ((0 : Int), (0 : Int)))).1) && ((((List.getD aL (Int.toNat k) ((0 : Int), (0 : Int)))).2 == ((List.getD bL (Int.toNat k) ((0 : Int), (0 : Int)))).2) && true))) (.ret (.rt, ⟨59, [(4, .e (.c (.kb false)))], []⟩)) (.need (decide (((-(9223372036854775808 : Int) : Int) ≤ (k + (1 : Int) : Int)) ∧ ((k + (1 : Int) : Int) ≤ (9223372036854775807 : Int)))) (.ret (.nx, ⟨59, [(2, .e (.c (.dp [.sl tInst aL, .sl Ty.str aN]))), (3, .e (.c (.dp [.sl tInst bL, .sl Ty.str bN]))), (5, rI (k + (1 : Int) : Int))], []⟩)))))))) (.ret (.ex 0, ⟨59, [(2, .e (.c (.dp [.sl tInst aL, .sl Ty.str aN]))), (3, .e (.c (.dp [.sl tInst bL, .sl Ty.str bN])))], []⟩))) (by kernel_rfl) ?_
    refine .rnd fun ⟨h1, h2, h3, h4⟩ => ?_
    have h2 : k ≤ aL.length := h2
    have h3 : aL.length = bL.length := h3
    have h4 : (aL.length : Int) ≤ 9223372036854775807 := h4
    show Gives _ (.ite (sameAt aL bL k.toNat) _ _)
    refine .lif (fun hk => ?_) (fun hk => ?_)
    · have e : (k + 1).toNat = k.toNat + 1 := by omega
      refine .lneed (inR_of h1 (by omega)) (.lneed rfl (.lneed (inR_of h1 (by omega)) (.lneed rfl ?_)))
      rw [sameAt_step (0, 0) (a := aL) (b := bL) (by omega) (by omega)]
      refine .lite (fun hx => ?_) (fun hx => ?_)
      · rw [eqI2, Bool.not_eq_true'] at hx
        exact .rff (by rw [hx]; rfl) (.refl _)
      · rw [eqI2, Bool.not_eq_false'] at hx
        refine .rb (by rw [hx, Bool.true_and]) (.lnd (by omega) ?_)
        refine Gives.next (σ' := q13a.st (((aL, aN), (bL, bN), k + 1, ()), ())) (by kernel_rfl) ((ih (((aL, aN), (bL, bN), k + 1, ()), ()) (by simp only; omega)).trans ?_)
        refine .nd ⟨by omega, by show k + 1 ≤ aL.length; omega, h3, h4⟩ ?_
        rw [e]; exact .refl _
    · rw [sameAt_end (by omega) (by omega)]; exact .rtt rfl (.refl _)
  · refine .pat q13b R13b (fun v => (v.1.1.2.length - v.1.2.2.1).toNat) ?_
    rintro ⟨⟨⟨(aL : List (Int × Int)), (aN : List ByteArray)⟩, ⟨(bL : List (Int × Int)), (bN : List ByteArray)⟩, (k : Int), ⟨⟩⟩, ⟨⟩⟩ ih
    refine Gives.run (t' := .ite (decide (k < (((List.length aN) : Nat) : Int))) (.need (inR k (List.length aN)) (.need (inR k (List.length bN)) (.ite (!(decide ((List.getD aN (Int.toNat k) ByteArray.empty) = (List.getD bN (Int.toNat k) ByteArray.empty)))) (.ret (.rt, ⟨59, [(4, .e (.c (.kb false)))], []⟩)) (.need (decide (((-(9223372036854775808 : Int) : Int) ≤ (k + (1 : Int) : Int)) ∧ ((k + (1 : Int) : Int) ≤ (9223372036854775807 : Int)))) (.ret (.nx, ⟨59, [(2, .e (.c (.dp [.sl tInst aL, .sl Ty.str aN]))), (3, .e (.c (.dp [.sl tInst bL, .sl Ty.str bN]))), (6, rI (k + (1 : Int) : Int))], []⟩)))))) (.ret (.ex 2, ⟨59, [], []⟩))) (by kernel_rfl) ?_
    refine .rnd fun ⟨h1, h2, h3, h4⟩ => ?_
    have h2 : k ≤ aN.length := h2
    have h3 : aN.length = bN.length := h3
    have h4 : (aN.length : Int) ≤ 9223372036854775807 := h4
    show Gives _ (.ite (sameAt aN bN k.toNat) _ _)
    refine .lif (fun hk => ?_) (fun hk => ?_)
    · have e : (k + 1).toNat = k.toNat + 1 := by omega
      refine .lneed (inR_of h1 (by omega)) (.lneed (inR_of h1 (by omega)) ?_)
      rw [sameAt_step ByteArray.empty (a := aN) (b := bN) (by omega) (by omega)]
      refine .lite (fun hx => ?_) (fun hx => ?_)
      · rw [Bool.not_eq_true'] at hx
        exact .rff (by rw [hx]; rfl) (.refl _)
      · rw [Bool.not_eq_false'] at hx
        refine .rb (by rw [hx, Bool.true_and]) (.lnd (by omega) ?_)
        refine Gives.next (σ' := q13b.st (((aL, aN), (bL, bN), k + 1, ()), ())) (by kernel_rfl) ((ih (((aL, aN), (bL, bN), k + 1, ()), ()) (by simp only; omega)).trans ?_)
        refine .nd ⟨by omega, by show k + 1 ≤ aN.length; omega, h3, h4⟩ ?_
        rw [e]; exact .refl _
    · rw [sameAt_end (by omega) (by omega)]; exact .rtt rfl (.refl _)
theorem same10_ok : CtrOk Tryz.prog 13 (ctr (two (aAgg tProg) (aAgg tProg)) fun a => ans (rB (decide (a.1 = a.2.1)))) := by
  refine .mk CE_ok mixed (q := fn13) (.of Tryz.func13 (by kernel_rfl)) lp13_ok (by decide) ?_
  rintro ⟨⟨(aL : List (Int × Int)), (aN : List ByteArray)⟩, ⟨(bL : List (Int × Int)), (bN : List ByteArray)⟩, ⟨⟩⟩ hb
  refine Gives.of_eq (t' := .ite ((((List.length aL) : Nat) : Int) != (((List.length bL) : Nat) : Int)) (.ret (rB false, ⟨0, [], []⟩)) (.ite ((((List.length aN) : Nat) : Int) != (((List.length bN) : Nat) : Int)) (.ret (rB false, ⟨0, [], []⟩)) (.need (decide (((0 : Int) ≤ (0 : Int)) ∧ (((0 : Int) ≤ (((List.length aL) : Nat) : Int)) ∧ (((List.length aL) = (List.length bL)) ∧ ((((List.length aL) : Nat) : Int) ≤ (9223372036854775807 : Int)))))) (.ite (sameAt aL bL 0) (.need (decide (((0 : Int) ≤ (0 : Int)) ∧ (((0 : Int) ≤ (((List.length aN) : Nat) : Int)) ∧ (((List.length aN) = (List.length bN)) ∧ ((((List.length aN) : Nat) : Int) ≤ (9223372036854775807 : Int)))))) (.ite (sameAt aN bN 0) (.ret (rB true, ⟨0, [], []⟩)) (.ret (rB false, ⟨0, [], []⟩)))) (.ret (rB false, ⟨0, [], []⟩)))))) (by kernel_rfl) ?_
  show Gives _ (.ret (rB (decide (((aL, aN) : Prog) = (bL, bN))), St.nil))
  have hl : aL.length ≤ 9223372036854775807 := hb.1.1.1
  have hn : aN.length ≤ 9223372036854775807 := hb.1.2.1
  have hd : decide (((aL, aN) : Prog) = (bL, bN)) = (decide (aL = bL) && decide (aN = bN)) := by rw [Bool.eq_iff_iff]; simp
  rw [hd]
  refine .ite (fun h => ?_) (fun h => ?_)
  · rw [decide_eq_false (fun e => by subst e; simp at h)]; exact .refl _
  refine .ite (fun h' => ?_) (fun h' => ?_)
  · rw [decide_eq_false (p := aN = bN) (fun e => by subst e; simp at h'), Bool.and_false]; exact .refl _
  have h : aL.length = bL.length := by have := bne_eq_false_iff_eq.1 h; omega
  have h' : aN.length = bN.length := by have := bne_eq_false_iff_eq.1 h'; omega
  refine .nd ⟨by omega, by omega, h, by omega⟩ (.ite (fun g => ?_) (fun g => ?_))
  · unfold sameAt at g; rw [List.drop_zero, List.drop_zero] at g; rw [g]
    refine .nd ⟨by omega, by omega, h', by omega⟩ (.ite (fun g' => ?_) (fun g' => ?_))
    · unfold sameAt at g'; rw [List.drop_zero, List.drop_zero] at g'; rw [g']; exact .refl _
    · unfold sameAt at g'; rw [List.drop_zero, List.drop_zero] at g'; rw [g']; exact .refl _
  · unfold sameAt at g; rw [List.drop_zero, List.drop_zero] at g; rw [g]; exact .refl _
end Go.Proofs.YtdngaaploooceaaGreatDoor.Sy

/- Contracts: whether two classes, traces, inputs are the same. -/
set_option maxRecDepth 100000
namespace Go.Proofs.YtdngaaploooceaaGreatDoor.Sy
open Go.RowKit Kit Go.Proofs
theorem eqEn (x y : Ent) : (decide (x.1 = y.1) && ((x.2.1 == y.2.1) && ((x.2.2 == y.2.2) && true))) = decide (x = y) := by
  rw [Bool.eq_iff_iff]; simp [Prod.ext_iff]
theorem eqI (x y : Int) : (x == y) = decide (x = y) := by rw [Bool.eq_iff_iff]; simp
theorem eqEv (x y : Bool × Int) : ((x.1 == y.1) && ((x.2 == y.2) && true)) = decide (x = y) := by
  rw [Bool.eq_iff_iff]; simp [Prod.ext_iff]
noncomputable def fn14 := mkFn Tryz.f14
def q14a : Frm := ⟨80, [(2, .ptr tCls), (3, .ptr tCls), (5, .dat tI)], []⟩
def R14a : q14a.V → Tr (Ex × St) := fun (((a : tCls.El), (b : tCls.El), (k : Int), _), _) =>
  .need (decide (0 ≤ k ∧ k ≤ a.1.length ∧ a.1.length = b.1.length ∧ (a.1.length : Int) ≤ 9223372036854775807)) (.ite (sameAt a.1 b.1 k.toNat) (.ret (.ex 0, ⟨80, [(2, .e (.c (.dp (split tCls a)))), (3, .e (.c (.dp (split tCls b))))], []⟩)) (.ret (.rt, ⟨80, [(4, .e (.c (.kb false)))], []⟩)))
def q14b : Frm := ⟨80, [(2, .ptr tCls), (3, .ptr tCls), (6, .dat tI)], []⟩
def R14b : q14b.V → Tr (Ex × St) := fun (((a : tCls.El), (b : tCls.El), (k : Int), _), _) =>
  .need (decide (0 ≤ k ∧ k ≤ a.2.1.length ∧ a.2.1.length = b.2.1.length ∧ (a.2.1.length : Int) ≤ 9223372036854775807)) (.ite (sameAt a.2.1 b.2.1 k.toNat) (.ret (.ex 2, ⟨80, [], []⟩)) (.ret (.rt, ⟨80, [(4, .e (.c (.kb false)))], []⟩)))
def lp14 : LP := [(0, sumP q14a R14a), (2, sumP q14b R14b)]
theorem lp14_ok : LpsOk 0 CE [] lp14 fn14.loops := by
  refine .all (by kernel_rfl) ?_
  simp only [lp14, List.forall_mem_cons, List.not_mem_nil, false_imp_iff, implies_true, and_true]
  constructor
  · refine .pat q14a R14a (fun v => (v.1.1.1.length - v.1.2.2.1).toNat) ?_
    rintro ⟨⟨⟨(aT : List Ent), (aA : List Int), (a1 : Int), (a2 : Int), (a3 : Int)⟩, ⟨(bT : List Ent), (bA : List Int), (b1 : Int), (b2 : Int), (b3 : Int)⟩, (k : Int), ⟨⟩⟩, ⟨⟩⟩ ih
    refine Gives.run (t' := .ite (decide (k < (((List.length aT) : Nat) : Int))) (.need (inR k (List.length aT)) (.need true (.need (inR k (List.length bT)) (.need true (.ite (!((decide (((List.getD aT (Int.toNat k) (ByteArray.empty, (false, (0 : Int))))).1 = ((List.getD bT (Int.toNat k) (ByteArray.empty, (false, (0 : Int))))).1)) && (((((List.getD aT (Int.toNat k) (ByteArray.empty, (false, (0 : Int))))).2).1 == (((List.getD bT (Int.toNat k) (ByteArray.empty, (false, (0 : Int))))).2).1) && (((((List.getD aT (Int.toNat k) (ByteArray.empty, (false, (0 : Int))))).2).2 == (((List.getD bT (Int.toNat k) (ByteArray.empty, (false, (0 : Int))))).2).2) && true)))) (.ret (.rt, ⟨80, [(4, .e (.c (.kb false)))], []⟩)) (.need (decide (((-(9223372036854775808 : Int) : Int) ≤ (k + (1 : Int) : Int)) ∧ ((k + (1 : Int) : Int) ≤ (9223372036854775807 : Int)))) (.ret (.nx, ⟨80, [(2, .e (.c (.dp [.sl tEnt aT, .sl tI aA, .v (.int .i64 a1), .v (.int .i64 a2), .v (.int .i64 a3)]))), (3, .e (.c (.dp [.sl tEnt bT, .sl tI bA, .v (.int .i64 b1), .v (.int .i64 b2), .v (.int .i64 b3)]))), (5, rI (k + (1 : Int) : Int))], []⟩)))))))) (.ret (.ex 0, ⟨80, [(2, .e (.c (.dp [.sl tEnt aT, .sl tI aA, .v (.int .i64 a1), .v (.int .i64 a2), .v (.int .i64 a3)]))), (3, .e (.c (.dp [.sl tEnt bT, .sl tI bA, .v (.int .i64 b1), .v (.int .i64 b2), .v (.int .i64 b3)])))], []⟩))) (by kernel_rfl) ?_
    refine .rnd fun ⟨h1, h2, h3, h4⟩ => ?_
    have h2 : k ≤ aT.length := h2
    have h3 : aT.length = bT.length := h3
    have h4 : (aT.length : Int) ≤ 9223372036854775807 := h4
    show Gives _ (.ite (sameAt aT bT k.toNat) _ _)
    refine .lif (fun hk => ?_) (fun hk => ?_)
    · have e : (k + 1).toNat = k.toNat + 1 := by omega
      refine .lneed (inR_of h1 (by omega)) (.lneed rfl (.lneed (inR_of h1 (by omega)) (.lneed rfl ?_)))
      rw [sameAt_step (ByteArray.empty, false, 0) (a := aT) (b := bT) (by omega) (by omega)]
      refine .lite (fun hx => ?_) (fun hx => ?_)
      · rw [eqEn, Bool.not_eq_true'] at hx
        exact .rff (by rw [hx]; rfl) (.refl _)
      · rw [eqEn, Bool.not_eq_false'] at hx
        refine .rb (by rw [hx, Bool.true_and]) (.lnd (by omega) ?_)
        refine Gives.next (σ' := q14a.st (((aT, aA, a1, a2, a3), (bT, bA, b1, b2, b3), k + 1, ()), ())) (by kernel_rfl) ((ih (((aT, aA, a1, a2, a3), (bT, bA, b1, b2, b3), k + 1, ()), ()) (by simp only; omega)).trans ?_)
        refine .nd ⟨by omega, by show k + 1 ≤ aT.length; omega, h3, h4⟩ ?_
        rw [e]; exact .refl _
    · rw [sameAt_end (by omega) (by omega)]; exact .rtt rfl (.refl _)
  · refine .pat q14b R14b (fun v => (v.1.1.2.1.length - v.1.2.2.1).toNat) ?_
    rintro ⟨⟨⟨(aT : List Ent), (aA : List Int), (a1 : Int), (a2 : Int), (a3 : Int)⟩, ⟨(bT : List Ent), (bA : List Int), (b1 : Int), (b2 : Int), (b3 : Int)⟩, (k : Int), ⟨⟩⟩, ⟨⟩⟩ ih
    refine Gives.run (t' := .ite (decide (k < (((List.length aA) : Nat) : Int))) (.need (inR k (List.length aA)) (.need (inR k (List.length bA)) (.ite ((List.getD aA (Int.toNat k) (0 : Int)) != (List.getD bA (Int.toNat k) (0 : Int))) (.ret (.rt, ⟨80, [(4, .e (.c (.kb false)))], []⟩)) (.need (decide (((-(9223372036854775808 : Int) : Int) ≤ (k + (1 : Int) : Int)) ∧ ((k + (1 : Int) : Int) ≤ (9223372036854775807 : Int)))) (.ret (.nx, ⟨80, [(2, .e (.c (.dp [.sl tEnt aT, .sl tI aA, .v (.int .i64 a1), .v (.int .i64 a2), .v (.int .i64 a3)]))), (3, .e (.c (.dp [.sl tEnt bT, .sl tI bA, .v (.int .i64 b1), .v (.int .i64 b2), .v (.int .i64 b3)]))), (6, rI (k + (1 : Int) : Int))], []⟩)))))) (.ret (.ex 2, ⟨80, [], []⟩))) (by kernel_rfl) ?_
    refine .rnd fun ⟨h1, h2, h3, h4⟩ => ?_
    have h2 : k ≤ aA.length := h2
    have h3 : aA.length = bA.length := h3
    have h4 : (aA.length : Int) ≤ 9223372036854775807 := h4
    show Gives _ (.ite (sameAt aA bA k.toNat) _ _)
    refine .lif (fun hk => ?_) (fun hk => ?_)
    · have e : (k + 1).toNat = k.toNat + 1 := by omega
      refine .lneed (inR_of h1 (by omega)) (.lneed (inR_of h1 (by omega)) ?_)
      rw [sameAt_step 0 (a := aA) (b := bA) (by omega) (by omega)]
      refine .lite (fun hx => ?_) (fun hx => ?_)
      · have hx : aA.getD k.toNat 0 ≠ bA.getD k.toNat 0 := by simpa using hx
        exact .rff (by rw [decide_eq_false hx]; rfl) (.refl _)
      · have hx : aA.getD k.toNat 0 = bA.getD k.toNat 0 := by simpa using hx
        refine .rb (by rw [decide_eq_true hx, Bool.true_and]) (.lnd (by omega) ?_)
        refine Gives.next (σ' := q14b.st (((aT, aA, a1, a2, a3), (bT, bA, b1, b2, b3), k + 1, ()), ())) (by kernel_rfl) ((ih (((aT, aA, a1, a2, a3), (bT, bA, b1, b2, b3), k + 1, ()), ()) (by simp only; omega)).trans ?_)
        refine .nd ⟨by omega, by show k + 1 ≤ aA.length; omega, h3, h4⟩ ?_
        rw [e]; exact .refl _
    · rw [sameAt_end (by omega) (by omega)]; exact .rtt rfl (.refl _)
theorem sameC_ok : CtrOk Tryz.prog 14 (ctr (two (aAgg tCls) (aAgg tCls)) fun a => ans (rB (decide (a.1 = a.2.1)))) := by
  refine .mk CE_ok mixed (q := fn14) (.of Tryz.func14 (by kernel_rfl)) lp14_ok (by decide) ?_
  rintro ⟨⟨(aT : List Ent), (aA : List Int), (a1 : Int), (a2 : Int), (a3 : Int)⟩, ⟨(bT : List Ent), (bA : List Int), (b1 : Int), (b2 : Int), (b3 : Int)⟩, ⟨⟩⟩ hb
  refine Gives.of_eq (t' := .ite (a1 != b1) (.ret (rB false, ⟨0, [], []⟩)) (.ite (a2 != b2) (.ret (rB false, ⟨0, [], []⟩)) (.ite (a3 != b3) (.ret (rB false, ⟨0, [], []⟩)) (.ite ((((List.length aT) : Nat) : Int) != (((List.length bT) : Nat) : Int)) (.ret (rB false, ⟨0, [], []⟩)) (.ite ((((List.length aA) : Nat) : Int) != (((List.length bA) : Nat) : Int)) (.ret (rB false, ⟨0, [], []⟩)) (.need (decide (((0 : Int) ≤ (0 : Int)) ∧ (((0 : Int) ≤ (((List.length aT) : Nat) : Int)) ∧ (((List.length aT) = (List.length bT)) ∧ ((((List.length aT) : Nat) : Int) ≤ (9223372036854775807 : Int)))))) (.ite (sameAt aT bT 0) (.need (decide (((0 : Int) ≤ (0 : Int)) ∧ (((0 : Int) ≤ (((List.length aA) : Nat) : Int)) ∧ (((List.length aA) = (List.length bA)) ∧ ((((List.length aA) : Nat) : Int) ≤ (9223372036854775807 : Int)))))) (.ite (sameAt aA bA 0) (.ret (rB true, ⟨0, [], []⟩)) (.ret (rB false, ⟨0, [], []⟩)))) (.ret (rB false, ⟨0, [], []⟩))))))))) (by kernel_rfl) ?_
  show Gives _ (.ret (rB (decide (((aT, aA, a1, a2, a3) : Cls) = (bT, bA, b1, b2, b3))), St.nil))
  have hl : aT.length ≤ 9223372036854775807 := hb.1.1.1
  have hn : aA.length ≤ 9223372036854775807 := hb.1.2.1.1
  have hd : decide (((aT, aA, a1, a2, a3) : Cls) = (bT, bA, b1, b2, b3)) = (decide (a1 = b1) && (decide (a2 = b2) && (decide (a3 = b3) && (decide (aT = bT) && decide (aA = bA))))) := by
    rw [Bool.eq_iff_iff]; simp only [Prod.mk.injEq, Bool.and_eq_true, decide_eq_true_eq]; exact ⟨fun ⟨x1, x2, x3, x4, x5⟩ => ⟨x3, x4, x5, x1, x2⟩, fun ⟨x3, x4, x5, x1, x2⟩ => ⟨x1, x2, x3, x4, x5⟩⟩
  rw [hd]
  refine .ite (fun h => ?_) (fun h => ?_)
  · rw [decide_eq_false (p := a1 = b1) (by simpa using h)]; exact .refl _
  rw [decide_eq_true (p := a1 = b1) (by simpa using h)]
  refine .ite (fun h => ?_) (fun h => ?_)
  · rw [decide_eq_false (p := a2 = b2) (by simpa using h)]; exact .refl _
  rw [decide_eq_true (p := a2 = b2) (by simpa using h)]
  refine .ite (fun h => ?_) (fun h => ?_)
  · rw [decide_eq_false (p := a3 = b3) (by simpa using h)]; exact .refl _
  rw [decide_eq_true (p := a3 = b3) (by simpa using h)]
  refine .ite (fun h => ?_) (fun h => ?_)
  · rw [decide_eq_false (p := aT = bT) (fun e => by subst e; simp at h)]; exact .refl _
  refine .ite (fun h' => ?_) (fun h' => ?_)
  · rw [decide_eq_false (p := aA = bA) (fun e => by subst e; simp at h'), Bool.and_false]; exact .refl _
  have h : aT.length = bT.length := by have := bne_eq_false_iff_eq.1 h; omega
  have h' : aA.length = bA.length := by have := bne_eq_false_iff_eq.1 h'; omega
  refine .nd ⟨by omega, by omega, h, by omega⟩ (.ite (fun g => ?_) (fun g => ?_))
  · unfold sameAt at g; rw [List.drop_zero, List.drop_zero] at g; rw [g]
    refine .nd ⟨by omega, by omega, h', by omega⟩ (.ite (fun g' => ?_) (fun g' => ?_))
    · unfold sameAt at g'; rw [List.drop_zero, List.drop_zero] at g'; rw [g']; exact .refl _
    · unfold sameAt at g'; rw [List.drop_zero, List.drop_zero] at g'; rw [g']; exact .refl _
  · unfold sameAt at g; rw [List.drop_zero, List.drop_zero] at g; rw [g]; exact .refl _
noncomputable def fn16 := mkFn Tryz.f16
def q16 : Frm := ⟨45, [(2, .ptr tTr), (3, .ptr tTr), (5, .dat tI)], []⟩
def R16 : q16.V → Tr (Ex × St) := fun (((a : tTr.El), (b : tTr.El), (k : Int), _), _) =>
  .need (decide (0 ≤ k ∧ k ≤ a.1.length ∧ a.1.length = b.1.length ∧ (a.1.length : Int) ≤ 9223372036854775807)) (.ite (sameAt a.1 b.1 k.toNat) (.ret (.ex 0, ⟨45, [], []⟩)) (.ret (.rt, ⟨45, [(4, .e (.c (.kb false)))], []⟩)))
def lp16 : LP := [(0, sumP q16 R16)]
theorem lp16_ok : LpsOk 0 CE [] lp16 fn16.loops := by
  refine .all (by kernel_rfl) ?_
  simp only [lp16, List.forall_mem_cons, List.not_mem_nil, false_imp_iff, implies_true, and_true]
  refine .pat q16 R16 (fun v => (v.1.1.1.length - v.1.2.2.1).toNat) ?_
  rintro ⟨⟨⟨(aL : List (Bool × Int)), (a1 : Int), (a2 : Int)⟩, ⟨(bL : List (Bool × Int)), (b1 : Int), (b2 : Int)⟩, (k : Int), ⟨⟩⟩, ⟨⟩⟩ ih
  refine Gives.run (t' := .ite (decide (k < (((List.length aL) : Nat) : Int))) (.need (inR k (List.length aL)) (.need true (.need (inR k (List.length bL)) (.need true (.ite (!((((List.getD aL (Int.toNat k) (false, (0 : Int)))).1 == ((List.getD bL (Int.toNat k) (false, (0 : Int)))).1) && ((((List.getD aL (Int.toNat k) (false, (0 : Int)))).2 == ((List.getD bL (Int.toNat k) (false, (0 : Int)))).2) && true))) (.ret (.rt, ⟨45, [(4, .e (.c (.kb false)))], []⟩)) (.need (decide (((-(9223372036854775808 : Int) : Int) ≤ (k + (1 : Int) : Int)) ∧ ((k + (1 : Int) : Int) ≤ (9223372036854775807 : Int)))) (.ret (.nx, ⟨45, [(2, .e (.c (.dp [.sl tEv aL, .v (.int .i64 a1), .v (.int .u16 a2)]))), (3, .e (.c (.dp [.sl tEv bL, .v (.int .i64 b1), .v (.int .u16 b2)]))), (5, rI (k + (1 : Int) : Int))], []⟩)))))))) (.ret (.ex 0, ⟨45, [], []⟩))) (by kernel_rfl) ?_
  refine .rnd fun ⟨h1, h2, h3, h4⟩ => ?_
  have h2 : k ≤ aL.length := h2
  have h3 : aL.length = bL.length := h3
  have h4 : (aL.length : Int) ≤ 9223372036854775807 := h4
  show Gives _ (.ite (sameAt aL bL k.toNat) _ _)
  refine .lif (fun hk => ?_) (fun hk => ?_)
  · have e : (k + 1).toNat = k.toNat + 1 := by omega
    refine .lneed (inR_of h1 (by omega)) (.lneed rfl (.lneed (inR_of h1 (by omega)) (.lneed rfl ?_)))
    rw [sameAt_step (false, 0) (a := aL) (b := bL) (by omega) (by omega)]
    refine .lite (fun hx => ?_) (fun hx => ?_)
    · rw [eqEv, Bool.not_eq_true'] at hx
      exact .rff (by rw [hx]; rfl) (.refl _)
    · rw [eqEv, Bool.not_eq_false'] at hx
      refine .rb (by rw [hx, Bool.true_and]) (.lnd (by omega) ?_)
      refine Gives.next (σ' := q16.st (((aL, a1, a2), (bL, b1, b2), k + 1, ()), ())) (by kernel_rfl) ((ih (((aL, a1, a2), (bL, b1, b2), k + 1, ()), ()) (by simp only; omega)).trans ?_)
      refine .nd ⟨by omega, by show k + 1 ≤ aL.length; omega, h3, h4⟩ ?_
      rw [e]; exact .refl _
  · rw [sameAt_end (by omega) (by omega)]; exact .rtt rfl (.refl _)
theorem sameTr_ok : CtrOk Tryz.prog 16 (ctr (two (aAgg tTr) (aAgg tTr)) fun a => ans (rB (decide (a.1 = a.2.1)))) := by
  refine .mk CE_ok mixed (q := fn16) (.of Tryz.func16 (by kernel_rfl)) lp16_ok (by decide) ?_
  rintro ⟨⟨(aL : List (Bool × Int)), (a1 : Int), (a2 : Int)⟩, ⟨(bL : List (Bool × Int)), (b1 : Int), (b2 : Int)⟩, ⟨⟩⟩ hb
  refine Gives.of_eq (t' := .ite (a1 != b1) (.ret (rB false, ⟨0, [], []⟩)) (.ite (a2 != b2) (.ret (rB false, ⟨0, [], []⟩)) (.ite ((((List.length aL) : Nat) : Int) != (((List.length bL) : Nat) : Int)) (.ret (rB false, ⟨0, [], []⟩)) (.need (decide (((0 : Int) ≤ (0 : Int)) ∧ (((0 : Int) ≤ (((List.length aL) : Nat) : Int)) ∧ (((List.length aL) = (List.length bL)) ∧ ((((List.length aL) : Nat) : Int) ≤ (9223372036854775807 : Int)))))) (.ite (sameAt aL bL 0) (.ret (rB true, ⟨0, [], []⟩)) (.ret (rB false, ⟨0, [], []⟩))))))) (by kernel_rfl) ?_
  show Gives _ (.ret (rB (decide (((aL, a1, a2) : Trc) = (bL, b1, b2))), St.nil))
  have hl : aL.length ≤ 9223372036854775807 := hb.1.1.1
  have hd : decide (((aL, a1, a2) : Trc) = (bL, b1, b2)) = (decide (a1 = b1) && (decide (a2 = b2) && decide (aL = bL))) := by
    rw [Bool.eq_iff_iff]; simp only [Prod.mk.injEq, Bool.and_eq_true, decide_eq_true_eq]; exact ⟨fun ⟨x1, x2, x3⟩ => ⟨x2, x3, x1⟩, fun ⟨x2, x3, x1⟩ => ⟨x1, x2, x3⟩⟩
  rw [hd]
  refine .ite (fun h => ?_) (fun h => ?_)
  · rw [decide_eq_false (p := a1 = b1) (by simpa using h)]; exact .refl _
  rw [decide_eq_true (p := a1 = b1) (by simpa using h)]
  refine .ite (fun h => ?_) (fun h => ?_)
  · rw [decide_eq_false (p := a2 = b2) (by simpa using h)]; exact .refl _
  rw [decide_eq_true (p := a2 = b2) (by simpa using h)]
  refine .ite (fun h => ?_) (fun h => ?_)
  · rw [decide_eq_false (p := aL = bL) (fun e => by subst e; simp at h)]; exact .refl _
  have h : aL.length = bL.length := by have := bne_eq_false_iff_eq.1 h; omega
  refine .nd ⟨by omega, by omega, h, by omega⟩ (.ite (fun g => ?_) (fun g => ?_))
  · unfold sameAt at g; rw [List.drop_zero, List.drop_zero] at g; rw [g]; exact .refl _
  · unfold sameAt at g; rw [List.drop_zero, List.drop_zero] at g; rw [g]; exact .refl _
noncomputable def fn15 := mkFn Tryz.f15
def sameBCtr : Ctr := ctr (two (aVal (.sl .bool)) (aVal (.sl .bool))) fun a => ans (rB (decide (a.1 = a.2.1)))
def sameTCtr : Ctr := ctr (two (aVal (.sl tB)) (aVal (.sl tB))) fun a => .need (a.1.all u8s && a.2.1.all u8s) (ans (rB (decide (a.1 = a.2.1))))
def C15 : Cx := ⟨T, FL, [(33, sameBCtr), (32, sameTCtr)], [], []⟩
theorem C15_ok : CxOk Tryz.prog C15 := ⟨T_ok, FL_ok, .cons sameB_ok (.cons sameT_ok (.nil _)), .nil _⟩
def inpU (i : Inp) : Bool := i.1.all u8s && i.2.1.all u8s
theorem sameIn_ok : CtrOk Tryz.prog 15 (ctr (two (aAgg tInp) (aAgg tInp)) fun a => .need (inpU a.1 && inpU a.2.1) (ans (rB (decide (a.1 = a.2.1))))) := by
  refine .mk C15_ok mixed (q := fn15) (.of Tryz.func15 (by kernel_rfl)) (N := 0) (nr := []) .none (by decide) ?_
  rintro ⟨⟨(aF : List (List Int)), (aA : List (List Int)), (aB : List Bool)⟩, ⟨(bF : List (List Int)), (bA : List (List Int)), (bB : List Bool)⟩, ⟨⟩⟩ hb
  refine Gives.of_eq (t' := .need ((List.all aF u8s) && (List.all bF u8s)) (.ite (decide (aF = bF)) (.need ((List.all aA u8s) && (List.all bA u8s)) (.ite (decide (aA = bA)) (.ret (rB (decide (aB = bB)), ⟨0, [], []⟩)) (.ret (rB false, ⟨0, [], []⟩)))) (.ret (rB false, ⟨0, [], []⟩)))) (by kernel_rfl) ?_
  show Gives _ (.need (inpU (aF, aA, aB) && inpU (bF, bA, bB)) (.ret (rB (decide (((aF, aA, aB) : Inp) = (bF, bA, bB))), St.nil)))
  have hd : decide (((aF, aA, aB) : Inp) = (bF, bA, bB)) = (decide (aF = bF) && (decide (aA = bA) && decide (aB = bB))) := by
    rw [Bool.eq_iff_iff]; simp only [Prod.mk.injEq, Bool.and_eq_true, decide_eq_true_eq]
  rw [hd]
  refine .rneed fun hu => ?_
  simp only [inpU, Bool.and_eq_true] at hu
  obtain ⟨⟨u1, u2⟩, u3, u4⟩ := hu
  refine .need (by rw [u1, u3]; rfl) (.ite (fun h => ?_) (fun h => ?_))
  · rw [h]
    refine .need (by rw [u2, u4]; rfl) (.ite (fun h => ?_) (fun h => ?_))
    · rw [h]; exact .refl _
    · rw [h]; exact .refl _
  · rw [h]; exact .refl _
end Go.Proofs.YtdngaaploooceaaGreatDoor.Sy

/- Contracts: ImageApart. -/
set_option maxRecDepth 100000
namespace Go.Proofs.YtdngaaploooceaaGreatDoor.Sy
open Go.RowKit Kit Go.Proofs
noncomputable def fn5 := mkFn Tryz.f5
noncomputable def C5 : Cx := ⟨T, FL, [(6, ctr Args.nil fun _ => ans (rB true)), (7, ctr (one (aAgg tImg)) fun a => ans (rB (smallR a.1))), (8, writeCtr),
  (13, ctr (two (aAgg tProg) (aAgg tProg)) fun a => ans (rB (decide (a.1 = a.2.1)))), (14, ctr (two (aAgg tCls) (aAgg tCls)) fun a => ans (rB (decide (a.1 = a.2.1)))),
  (15, ctr (two (aAgg tInp) (aAgg tInp)) fun a => .need (inpU a.1 && inpU a.2.1) (ans (rB (decide (a.1 = a.2.1))))), (16, ctr (two (aAgg tTr) (aAgg tTr)) fun a => ans (rB (decide (a.1 = a.2.1))))], [], []⟩
theorem C5_ok : CxOk Tryz.prog C5 := ⟨T_ok, FL_ok, .cons awake_ok (.cons smallR_ok (.cons write_ok (.cons same10_ok (.cons sameC_ok (.cons sameIn_ok (.cons sameTr_ok (.nil _))))))), .nil _⟩
theorem apart_ok : CtrOk Tryz.prog 5 (ctr (two (aAgg tImg) (aAgg tImg)) fun a => .need (imgR a.1 && imgR a.2.1) (ans (rB true))) := by
  refine .mk C5_ok mixed (q := fn5) (.of Tryz.func5 (by kernel_rfl)) (N := 0) (nr := []) .none (by decide) ?_
  rintro ⟨(a : Img), (b : Img), ⟨⟩⟩ hb
  refine Gives.of_eq (t' := .ite false (.ret (rB false, ⟨0, [], []⟩)) (.need true (.ite (!(smallR a)) (.ret (rB true, ⟨0, [], []⟩)) (.need true (.ite (!(smallR b)) (.ret (rB true, ⟨0, [], []⟩)) (.need true (.need true (.need true (.need true (.ite ((writeE a) != (0 : Int)) (.need true (.need true (.need true (.need true (.ite ((writeE b) != (0 : Int)) (.ite ((writeE a) != (0 : Int)) (.ret (rB true, ⟨0, [], []⟩)) (.ite ((writeE b) != (0 : Int)) (.ret (rB true, ⟨0, [], []⟩)) (.need true (.need true (.ite (decide ((a).1 = (b).1)) (.need true (.need true (.ite (decide (((a).2).1 = ((b).2).1)) (.need true (.need true (.need ((inpU (((a).2).2).1) && (inpU (((b).2).2).1)) (.ite (decide ((((a).2).2).1 = (((b).2).2).1)) (.need true (.need true (.ret (rB ((decide (ByteArray.empty = ByteArray.empty)) == (decide ((((a).2).2).2 = (((b).2).2).2))), ⟨0, [], []⟩)))) (.ret (rB ((decide (ByteArray.empty = ByteArray.empty)) == false), ⟨0, [], []⟩)))))) (.ret (rB ((decide (ByteArray.empty = ByteArray.empty)) == false), ⟨0, [], []⟩))))) (.ret (rB ((decide (ByteArray.empty = ByteArray.empty)) == false), ⟨0, [], []⟩))))))) (.ite ((writeE a) != (0 : Int)) (.ret (rB true, ⟨0, [], []⟩)) (.ite false (.ret (rB true, ⟨0, [], []⟩)) (.need true (.need true (.ite (decide ((a).1 = (b).1)) (.need true (.need true (.ite (decide (((a).2).1 = ((b).2).1)) (.need true (.need true (.need ((inpU (((a).2).2).1) && (inpU (((b).2).2).1)) (.ite (decide ((((a).2).2).1 = (((b).2).2).1)) (.need true (.need true (.need true (.ret (rB ((decide (ByteArray.empty = (txt (writeB b)))) == (decide ((((a).2).2).2 = (((b).2).2).2))), ⟨0, [], []⟩))))) (.need true (.ret (rB ((decide (ByteArray.empty = (txt (writeB b)))) == false), ⟨0, [], []⟩))))))) (.need true (.ret (rB ((decide (ByteArray.empty = (txt (writeB b)))) == false), ⟨0, [], []⟩)))))) (.need true (.ret (rB ((decide (ByteArray.empty = (txt (writeB b)))) == false), ⟨0, [], []⟩))))))))))))) (.need true (.need true (.need true (.need true (.ite ((writeE b) != (0 : Int)) (.ite false (.ret (rB true, ⟨0, [], []⟩)) (.ite ((writeE b) != (0 : Int)) (.ret (rB true, ⟨0, [], []⟩)) (.need true (.need true (.ite (decide ((a).1 = (b).1)) (.need true (.need true (.ite (decide (((a).2).1 = ((b).2).1)) (.need true (.need true (.need ((inpU (((a).2).2).1) && (inpU (((b).2).2).1)) (.ite (decide ((((a).2).2).1 = (((b).2).2).1)) (.need true (.need true (.need true (.ret (rB ((decide ((txt (writeB a)) = ByteArray.empty)) == (decide ((((a).2).2).2 = (((b).2).2).2))), ⟨0, [], []⟩))))) (.need true (.ret (rB ((decide ((txt (writeB a)) = ByteArray.empty)) == false), ⟨0, [], []⟩))))))) (.need true (.ret (rB ((decide ((txt (writeB a)) = ByteArray.empty)) == false), ⟨0, [], []⟩)))))) (.need true (.ret (rB ((decide ((txt (writeB a)) = ByteArray.empty)) == false), ⟨0, [], []⟩)))))))) (.ite false (.ret (rB true, ⟨0, [], []⟩)) (.ite false (.ret (rB true, ⟨0, [], []⟩)) (.need true (.need true (.ite (decide ((a).1 = (b).1)) (.need true (.need true (.ite (decide (((a).2).1 = ((b).2).1)) (.need true (.need true (.need ((inpU (((a).2).2).1) && (inpU (((b).2).2).1)) (.ite (decide ((((a).2).2).1 = (((b).2).2).1)) (.need true (.need true (.need true (.need true (.ret (rB ((decide ((txt (writeB a)) = (txt (writeB b)))) == (decide ((((a).2).2).2 = (((b).2).2).2))), ⟨0, [], []⟩)))))) (.need true (.need true (.ret (rB ((decide ((txt (writeB a)) = (txt (writeB b)))) == false), ⟨0, [], []⟩)))))))) (.need true (.need true (.ret (rB ((decide ((txt (writeB a)) = (txt (writeB b)))) == false), ⟨0, [], []⟩))))))) (.need true (.need true (.ret (rB ((decide ((txt (writeB a)) = (txt (writeB b)))) == false), ⟨0, [], []⟩)))))))))))))))))))))))) (by kernel_rfl) ?_
  show Gives _ (.need (imgR a && imgR b) (.ret (rB true, St.nil)))
  refine .rneed fun hu => ?_
  simp only [imgR, Bool.and_eq_true] at hu
  obtain ⟨⟨ua, ra⟩, ub, rb⟩ := hu
  refine .ff rfl (.need rfl (.ite (fun h => .refl _) (fun h => ?_)))
  clear h
  refine .need rfl (.ite (fun h => .refl _) (fun h => ?_))
  clear h
  refine .need rfl (.need rfl (.need rfl (.need rfl ?_)))
  refine .ite (fun h => ?_) (fun h => ?_)
  · refine .need rfl (.need rfl (.need rfl (.need rfl (.ite (fun h' => .tt h (.refl _)) (fun h' => .tt h (.refl _))))))
  refine .need rfl (.need rfl (.need rfl (.need rfl (.ite (fun h' => .ff rfl (.tt h' (.refl _))) (fun h' => ?_)))))
  have wa : writeE a = 0 := bne_eq_false_iff_eq.1 h
  have wb : writeE b = 0 := bne_eq_false_iff_eq.1 h'
  clear h h'
  haveI : Decidable (a = b) := Classical.propDecidable _
  have key : decide (txt (writeB a) = txt (writeB b)) = decide (a = b) := by
    rw [Bool.eq_iff_iff, decide_eq_true_iff, decide_eq_true_iff]
    exact ⟨fun h => writeB_inj wa wb ra rb ((txt_inj2 (writeB_u8 ua) (writeB_u8 ub)).1 h), fun h => by rw [h]⟩
  have hin : (inpU a.2.2.1 && inpU b.2.2.1) = true := by
    rw [Bool.and_eq_true]; exact ⟨ua, ub⟩
  rw [key]
  refine .ff rfl (.ff rfl (.need rfl (.need rfl (.ite (fun h1 => ?_) (fun h1 => ?_)))))
  · have h1 := of_decide_eq_true h1
    refine .need rfl (.need rfl (.ite (fun h2 => ?_) (fun h2 => ?_)))
    · have h2 := of_decide_eq_true h2
      refine .need rfl (.need rfl (.need hin (.ite (fun h3 => ?_) (fun h3 => ?_))))
      · have h3 := of_decide_eq_true h3
        have e : decide (a.2.2.2 = b.2.2.2) = decide (a = b) := by
          rw [Bool.eq_iff_iff, decide_eq_true_iff, decide_eq_true_iff]
          exact ⟨fun h4 => Prod.ext h1 (Prod.ext h2 (Prod.ext h3 h4)), fun h4 => by rw [h4]⟩
        rw [e, beq_self_eq_true]
        exact .need rfl (.need rfl (.need rfl (.need rfl (.refl _))))
      · rw [decide_eq_false (p := a = b) (fun h => of_decide_eq_false h3 (by rw [h]))]
        exact .need rfl (.need rfl (.refl _))
    · rw [decide_eq_false (p := a = b) (fun h => of_decide_eq_false h2 (by rw [h]))]
      exact .need rfl (.need rfl (.refl _))
  · rw [decide_eq_false (p := a = b) (fun h => of_decide_eq_false h1 (by rw [h]))]
    exact .need rfl (.need rfl (.refl _))
end Go.Proofs.YtdngaaploooceaaGreatDoor.Sy
