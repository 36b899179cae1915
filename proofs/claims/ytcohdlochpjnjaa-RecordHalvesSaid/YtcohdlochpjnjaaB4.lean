/- Lemmas for the statements of this seat: NumP NumQ PlA PlB PlC. -/
import Derived.Test.YtcohdlochpjnjaaB3
import Derived.Laws.Strings
set_option linter.all false
section
open Go Go.Vm
namespace Go.Proofs.Ytcohdlochpjnjaa
/-- A string as its bytes. -/
def ba (l : List UInt8) : ByteArray := ⟨l.toArray⟩
theorem ba_size (l : List UInt8) : (ba l).size = l.length := by simp [ba, ByteArray.size]
theorem ba_data (d : ByteArray) : ba d.data.toList = d := by cases d; simp [ba]
theorem byteAt_ba (l : List UInt8) (i : Nat) (h : i < l.length) : byteAt (ba l) i = (l[i].toNat : Int) := by
  unfold byteAt
  rw [dif_pos (by rw [ba_size]; exact h)]
  simp [ba, ByteArray.getElem_eq_getElem_data]
theorem extract_ba (l : List UInt8) (i : Nat) : (ba l).extract i (ba l).size = ba (l.drop i) := by
  rw [ba_size]
  apply ByteArray.ext
  simp [ba]
  exact List.take_of_length_le (by simp)
theorem bytesOf_ba (ns : List Int) : bytesOf ns = ba (ns.map fun n => UInt8.ofNat n.toNat) := by
  have : ∀ (ns : List Int) (l : List UInt8), ns.foldl (fun r n => r.push (UInt8.ofNat n.toNat)) (ba l) = ba (l ++ ns.map fun n => UInt8.ofNat n.toNat) := by
    intro ns
    induction ns with
    | nil => intro l; simp
    | cons n ns ih =>
      intro l
      simp only [List.foldl_cons, List.map_cons]
      have e : (ba l).push (UInt8.ofNat n.toNat) = ba (l ++ [UInt8.ofNat n.toNat]) := by
        apply ByteArray.ext
        simp [ba, ByteArray.push]
      rw [e, ih]
      simp
  exact this ns []
theorem numGo_append (l q : List UInt8) : ∀ (f i : Nat) (n v : Int) (d' : ByteArray), numGo (ba l) false f i n = (v, d', false) → ∃ k, i < k ∧ k ≤ l.length ∧ d' = ba (l.drop k) ∧ numGo (ba (l ++ q)) false f i n = (v, ba (l.drop k ++ q), false)
  | 0, i, n, v, d', h => by simp [numGo] at h
  | f + 1, i, n, v, d', h => by
    rw [numGo] at h
    split at h
    · rename_i hi
      have hil : i < l.length := by rw [← ba_size]; exact hi.1
      have hb : byteAt (ba (l ++ q)) i = byteAt (ba l) i := by
        rw [byteAt_ba _ _ hil, byteAt_ba _ _ (by simp; omega)]
        simp [List.getElem_append_left hil]
      have hc : i < (ba (l ++ q)).size ∧ false = false := ⟨by rw [ba_size]; simp; omega, rfl⟩
      split at h
      · rename_i hlt
        simp only [Prod.mk.injEq] at h
        obtain ⟨h1, h2, h3⟩ := h
        refine ⟨i + 1, by omega, by omega, by rw [← h2, extract_ba], ?_⟩
        rw [numGo, if_pos hc, hb, if_pos hlt, h1, h3, extract_ba, List.drop_append_of_le_length (by omega)]
      · rename_i hlt
        obtain ⟨k, k1, k2, k3, k4⟩ := numGo_append l q f (i + 1) _ v d' h
        refine ⟨k, by omega, k2, k3, ?_⟩
        rw [numGo, if_pos hc, hb, if_neg hlt]
        exact k4
    · simp at h
end Go.Proofs.Ytcohdlochpjnjaa
end
section
open Go Go.Vm
namespace Go.Proofs.Ytcohdlochpjnjaa
/-! Varying numbers: what is written is read again, and what is read was written so. -/
def digs (n : Nat) : List UInt8 := if h : n < 128 then [UInt8.ofNat n] else UInt8.ofNat (n % 128 + 128) :: digs (n / 128)
termination_by n
decreasing_by omega
theorem or128 : ∀ m : Fin 256, bitsV .or .u8 ((m.val : Nat) : Int) 128 = ((m.val % 128 + 128 : Nat) : Int) := by decide +kernel
theorem and127 : ∀ m : Fin 256, bitsV .and .u8 ((m.val : Nat) : Int) 127 = ((m.val % 128 : Nat) : Int) := by decide +kernel
theorem u8w (n : Nat) : IntKind.u8.wrap (n : Int) = ((n % 256 : Nat) : Int) := by
  simp [IntKind.wrap, IntKind.signed, IntKind.bits]
theorem varI_digs (n : Nat) : (varI (n : Int)).map (fun k => UInt8.ofNat k.toNat) = digs n := by
  induction n using Nat.strongRecOn with
  | ind n ih =>
    rw [varI, digs]
    by_cases h : n < 128
    · rw [dif_neg (by omega), dif_pos h]
      simp only [List.map_cons, List.map_nil, u8w, Int.toNat_natCast]
      rw [Nat.mod_eq_of_lt (by omega)]
    · rw [dif_pos (by omega), dif_neg h]
      have e : (n : Int).fdiv 128 = ((n / 128 : Nat) : Int) := by rw [Int.fdiv_eq_ediv_of_nonneg _ (by omega)]; omega
      have e2 := or128 ⟨n % 256, Nat.mod_lt _ (by omega)⟩
      simp only at e2
      simp only [List.map_cons, u8w, e, e2, Int.toNat_natCast]
      rw [ih (n / 128) (by omega)]
      congr 2
      omega
theorem digs_ne (n : Nat) : digs n ≠ [] := by rw [digs]; split <;> simp
theorem numStep_nat (n c i : Nat) (hi : i < 5) (hn : n < 128 ^ i) (hc : c < 256) : numStep (n : Int) (c : Int) i = ((n + c % 128 * 128 ^ i : Nat) : Int) := by
  unfold numStep
  have e1 := and127 ⟨c, hc⟩
  simp only at e1
  rw [e1, Nat.min_eq_left (by omega)]
  have hp : (2 : Nat) ^ (7 * i) = 128 ^ i := by rw [Nat.pow_mul]
  have hpi : (2 : Int) ^ (7 * i) = ((128 ^ i : Nat) : Int) := by rw [← hp]; simp
  have hp5 : 128 ^ i ≤ 268435456 := by
    calc 128 ^ i ≤ 128 ^ 4 := Nat.pow_le_pow_right (by omega) (by omega)
      _ = 268435456 := by decide
  have hm : c % 128 < 128 := Nat.mod_lt _ (by omega)
  have hb : c % 128 * 128 ^ i ≤ 127 * 268435456 := Nat.mul_le_mul (by omega) hp5
  have w1 : IntKind.i64.wrap ((c % 128 : Nat) : Int) = ((c % 128 : Nat) : Int) := wrap_i64 (by omega) (by omega)
  rw [w1, hpi, ← Int.natCast_mul]
  have w2 : IntKind.i64.wrap ((c % 128 * 128 ^ i : Nat) : Int) = ((c % 128 * 128 ^ i : Nat) : Int) := wrap_i64 (by omega) (by omega)
  rw [w2]
  unfold bitsV
  simp only
  have h64 : IntKind.i64.bits = 64 := rfl
  have e : ((BitVec.ofInt IntKind.i64.bits (n : Int)) ||| (BitVec.ofInt IntKind.i64.bits ((c % 128 * 128 ^ i : Nat) : Int))).toNat = n + c % 128 * 128 ^ i := by
    rw [BitVec.toNat_or, BitVec.ofInt_natCast, BitVec.ofInt_natCast, BitVec.toNat_ofNat, BitVec.toNat_ofNat, h64, Nat.mod_eq_of_lt (show n < 2 ^ 64 by omega), Nat.mod_eq_of_lt (show c % 128 * 128 ^ i < 2 ^ 64 by omega)]
    have := Nat.shiftLeft_add_eq_or_of_lt (i := 7 * i) (b := n) (by rw [hp]; exact hn) (c % 128)
    rw [Nat.shiftLeft_eq, hp] at this
    rw [Nat.or_comm, ← this]
    omega
  rw [e]
  exact wrap_i64 (by omega) (by omega)
theorem pow128 (i : Nat) : (128 : Nat) ^ (i + 1) = 128 ^ i * 128 := Nat.pow_succ ..
theorem numGo_digs (rest : List UInt8) : ∀ (n f i : Nat) (pre : List UInt8) (acc : Nat), pre.length = i → f + i ≤ 5 → n < 128 ^ f → acc < 128 ^ i → (0 < i → 0 < n) → 0 < f →
    numGo (ba (pre ++ (digs n ++ rest))) false f i (acc : Int) = (((acc + n * 128 ^ i : Nat) : Int), ba rest, false) := by
  intro n
  induction n using Nat.strongRecOn with
  | ind n ih =>
    intro f i pre acc hpre hf hn hacc hpos hf0
    obtain ⟨f, rfl⟩ : ∃ g, f = g + 1 := ⟨f - 1, by omega⟩
    rw [numGo]
    have hsz : i < (ba (pre ++ (digs n ++ rest))).size := by
      rw [ba_size]
      have := List.length_pos_iff.2 (digs_ne n)
      simp only [List.length_append]; omega
    rw [if_pos ⟨hsz, rfl⟩]
    by_cases h : n < 128
    · have e : digs n = [UInt8.ofNat n] := by rw [digs, dif_pos h]
      have hb : byteAt (ba (pre ++ (digs n ++ rest))) i = (n : Int) := by
        rw [byteAt_ba _ _ (by rw [ba_size] at hsz; exact hsz)]
        subst hpre
        simp only [e, List.getElem_append_right (Nat.le_refl _), Nat.sub_self, List.singleton_append, List.getElem_cons_zero]
        simp; omega
      rw [hb, if_pos (by omega), numStep_nat acc n i (by omega) hacc (by omega), extract_ba, Nat.mod_eq_of_lt h]
      congr 2
      · rw [e]
        subst hpre
        simp
      · by_cases h0 : 0 < i
        · have := hpos h0
          have : ((n : Int) == 0) = false := by simp; omega
          rw [this, Bool.false_and]
        · simp [h0]
    · have e : digs n = UInt8.ofNat (n % 128 + 128) :: digs (n / 128) := by rw [digs, dif_neg h]
      have hb : byteAt (ba (pre ++ (digs n ++ rest))) i = ((n % 128 + 128 : Nat) : Int) := by
        rw [byteAt_ba _ _ (by rw [ba_size] at hsz; exact hsz)]
        subst hpre
        simp only [e, List.getElem_append_right (Nat.le_refl _), Nat.sub_self, List.cons_append, List.getElem_cons_zero]
        simp; omega
      have hfp : 0 < f := by
        rcases Nat.eq_zero_or_pos f with rfl | h'
        · simp at hn; omega
        · exact h'
      rw [hb, if_neg (by omega), numStep_nat acc (n % 128 + 128) i (by omega) hacc (by omega)]
      have hm : (n % 128 + 128) % 128 = n % 128 := by omega
      rw [hm]
      have e3 : pre ++ (digs n ++ rest) = (pre ++ [UInt8.ofNat (n % 128 + 128)]) ++ (digs (n / 128) ++ rest) := by rw [e]; simp
      rw [e3, ih (n / 128) (by omega) f (i + 1) (pre ++ [UInt8.ofNat (n % 128 + 128)]) (acc + n % 128 * 128 ^ i) (by simp [hpre]) (by omega) ?_ ?_ (by omega) hfp]
      · congr 2
        rw [pow128]
        have := Nat.div_add_mod n 128
        calc acc + n % 128 * 128 ^ i + n / 128 * (128 ^ i * 128) = acc + (128 * (n / 128) + n % 128) * 128 ^ i := by rw [Nat.add_mul, ← Nat.mul_assoc, Nat.mul_right_comm, Nat.mul_comm (n / 128) 128]; omega
          _ = acc + n * 128 ^ i := by rw [this]
      · rw [pow128] at hn; omega
      · rw [pow128]
        have : n % 128 * 128 ^ i ≤ 127 * 128 ^ i := Nat.mul_le_mul_right _ (by omega)
        omega
theorem nx_digs (v : Int) (n : Nat) (hn : n < 34359738368) (rest : List UInt8) : nx (v, ba (digs n ++ rest), false) = ((n : Int), ba rest, false) := by
  have := numGo_digs rest n 5 0 [] 0 rfl (Nat.le_refl _) (by simpa using hn) (by simp) (by omega) (by omega)
  simpa [nx, num] using this
theorem numGo_inv (l : List UInt8) : ∀ (f i acc : Nat) (v : Int) (d' : ByteArray), f + i ≤ 5 → acc < 128 ^ i → numGo (ba l) false f i (acc : Int) = (v, d', false) →
    ∃ n rest, (0 < i → 0 < n) ∧ n < 128 ^ f ∧ l.drop i = digs n ++ rest ∧ d' = ba rest ∧ v = ((acc + n * 128 ^ i : Nat) : Int)
  | 0, i, acc, v, d', _, _, h => by simp [numGo] at h
  | f + 1, i, acc, v, d', hf, hacc, h => by
    rw [numGo] at h
    split at h
    · rename_i hi
      have hil : i < l.length := by rw [← ba_size]; exact hi.1
      rw [byteAt_ba _ _ hil] at h
      have hd : l.drop i = l[i] :: l.drop (i + 1) := List.drop_eq_getElem_cons hil
      have hlt : l[i].toNat < 256 := l[i].toNat_lt
      split at h
      · rename_i hc
        have hc : l[i].toNat < 128 := by omega
        rw [numStep_nat acc l[i].toNat i (by omega) hacc hlt, Nat.mod_eq_of_lt hc, extract_ba] at h
        simp only [Prod.mk.injEq] at h
        obtain ⟨h1, h2, h3⟩ := h
        refine ⟨l[i].toNat, l.drop (i + 1), fun h0 => ?_, ?_, ?_, h2.symm, h1.symm⟩
        · simp only [h0, decide_true, Bool.and_true, beq_eq_false_iff_ne, ne_eq] at h3
          omega
        · calc l[i].toNat < 128 := hc
            _ ≤ 128 ^ (f + 1) := by rw [pow128]; exact Nat.le_mul_of_pos_left _ (Nat.pow_pos (by omega))
        · rw [hd, digs, dif_pos hc]; simp
      · rename_i hc
        have hc : 128 ≤ l[i].toNat := by omega
        rw [numStep_nat acc l[i].toNat i (by omega) hacc hlt] at h
        have hm : l[i].toNat % 128 * 128 ^ i ≤ 127 * 128 ^ i := Nat.mul_le_mul_right _ (by omega)
        obtain ⟨n, rest, g1, g2, g3, g4, g5⟩ := numGo_inv l f (i + 1) _ v d' (by omega) (by rw [pow128]; omega) h
        have g1 := g1 (by omega)
        refine ⟨l[i].toNat % 128 + 128 * n, rest, fun _ => by omega, ?_, ?_, g4, ?_⟩
        · rw [pow128]; omega
        · have e : digs (l[i].toNat % 128 + 128 * n) = UInt8.ofNat (l[i].toNat % 128 + 128) :: digs n := by
            rw [digs, dif_neg (by omega), show (l[i].toNat % 128 + 128 * n) % 128 = l[i].toNat % 128 by omega, show (l[i].toNat % 128 + 128 * n) / 128 = n by omega]
          rw [hd, g3, e, show l[i].toNat % 128 + 128 = l[i].toNat by omega]
          simp
        · rw [g5, pow128]
          congr 1
          rw [Nat.add_mul, Nat.mul_comm 128 n, Nat.mul_assoc n 128, Nat.mul_comm 128 (128 ^ i)]
          omega
    · simp at h
theorem nx_inv (u v : Int) (l : List UInt8) (d' : ByteArray) (h : nx (u, ba l, false) = (v, d', false)) : ∃ (n : Nat) (rest : List UInt8), v = n ∧ n < 34359738368 ∧ l = digs n ++ rest ∧ d' = ba rest := by
  obtain ⟨n, rest, _, h2, h3, h4, h5⟩ := numGo_inv l 5 0 0 v d' (Nat.le_refl _) (by simp) (by simpa [nx, num] using h)
  exact ⟨n, rest, by simpa using h5, by simpa using h2, by simpa using h3, h4⟩
theorem nx_bad (u : Int) (d : ByteArray) : nx (u, d, true) = (0, d, true) := by
  simp [nx, num, numGo]
end Go.Proofs.Ytcohdlochpjnjaa
end
section
open Go Go.Vm
namespace Go.Proofs.Ytcohdlochpjnjaa
/-! What it means that the attempts and the deliveries of a record are in order. -/
theorem u32w (n : Nat) : IntKind.u32.wrap (n : Int) = ((n % 4294967296 : Nat) : Int) := by
  simp [IntKind.wrap, IntKind.signed, IntKind.bits]
theorem seen_nat (m f : Nat) (hm : m < 4294967296) (hf : f < 32) : seen (m : Int) (f : Int) = m.testBit f := by
  have hb : IntKind.u32.bits = 32 := rfl
  unfold seen bitsV
  simp only [Int.toNat_natCast, hb]
  rw [Nat.min_eq_left (by omega)]
  have e : (m : Int).fdiv (2 ^ f) = ((m / 2 ^ f : Nat) : Int) := by rw [Int.fdiv_eq_ediv_of_nonneg _ (Int.pow_nonneg (by omega))]; simp
  have e1 : (1 : Int) = ((1 : Nat) : Int) := rfl
  have hlt : m / 2 ^ f < 4294967296 := Nat.lt_of_le_of_lt (Nat.div_le_self ..) hm
  rw [e]
  conv => lhs; lhs; rw [e1]
  rw [BitVec.ofInt_natCast, BitVec.ofInt_natCast, BitVec.toNat_and, BitVec.toNat_ofNat, BitVec.toNat_ofNat, hb, Nat.mod_eq_of_lt (show m / 2 ^ f < 2 ^ 32 from hlt), Nat.mod_eq_of_lt (show (1 : Nat) < 2 ^ 32 by decide), Nat.and_one_is_mod, u32w, Nat.mod_eq_of_lt (by omega), Nat.testBit_eq_decide_div_mod_eq]
  rcases Nat.mod_two_eq_zero_or_one (m / 2 ^ f) with h | h <;> simp [h]
theorem mark_nat (m f : Nat) (hm : m < 4294967296) (hf : f < 32) : mark (m : Int) (f : Int) = ((m ||| 2 ^ f : Nat) : Int) ∧ m ||| 2 ^ f < 4294967296 := by
  have hb : IntKind.u32.bits = 32 := rfl
  have hp : 2 ^ f < 2 ^ 32 := Nat.pow_lt_pow_right (by omega) hf
  have hor : m ||| 2 ^ f < 2 ^ 32 := Nat.or_lt_two_pow hm hp
  refine ⟨?_, hor⟩
  unfold mark bitsV
  simp only [Int.toNat_natCast, hb]
  rw [Nat.min_eq_left (by omega)]
  have e : (2 : Int) ^ f = ((2 ^ f : Nat) : Int) := by simp
  rw [e, u32w (2 ^ f), Nat.mod_eq_of_lt hp, BitVec.ofInt_natCast, BitVec.ofInt_natCast, BitVec.toNat_or, BitVec.toNat_ofNat, BitVec.toNat_ofNat, hb, Nat.mod_eq_of_lt (show m < 2 ^ 32 from hm), Nat.mod_eq_of_lt hp, u32w, Nat.mod_eq_of_lt hor]
/-- One attempt stands before another. -/
def ltA (a b : Att) : Prop := a.slot < b.slot ∨ a.slot = b.slot ∧ (a.cslot < b.cslot ∨ a.cslot = b.cslot ∧ (a.off < b.off ∨ a.off = b.off ∧ (a.frm < b.frm ∨ a.frm = b.frm ∧ (a.to < b.to ∨ a.to = b.to ∧ a.flow < b.flow))))
theorem cmpI_lt (x y : Int) : cmpI x y < 0 ↔ x < y := by unfold cmpI; split <;> (try split) <;> omega
theorem cmpI_eq (x y : Int) : cmpI x y = 0 ↔ x = y := by unfold cmpI; split <;> (try split) <;> omega
theorem orI_cmp (x y : Int) (l : List Int) : orI (cmpI x y :: l) < 0 ↔ x < y ∨ x = y ∧ orI l < 0 := by
  rw [orI]
  split
  · rename_i h; have := (cmpI_eq x y).1 h; omega
  · rename_i h; rw [cmpI_lt]; have : ¬ x = y := fun e => h ((cmpI_eq x y).2 e); omega
theorem cmpA_lt (a b : Att) : cmpA a b < 0 ↔ ltA a b := by
  unfold cmpA ltA
  simp only [orI_cmp]
  simp [orI]
theorem ltA_trans {a b c : Att} (h1 : ltA a b) (h2 : ltA b c) : ltA a c := by
  unfold ltA at *
  omega
theorem ltA_slot {a b : Att} (h : ltA a b) : a.slot ≤ b.slot := by
  unfold ltA at h
  omega
/-- What two attempts of a record, the first before the second, must not share. -/
def okA (a b : Att) : Prop := ltA a b ∧ ¬ (a.slot = b.slot ∧ a.frm = b.frm)
def AttsP (slots : Int) (l : List Att) : Prop := (∀ a ∈ l, attOk a slots = true) ∧ l.Pairwise okA
structure AtBits (pre : List Att) (s t : Int) : Prop where
  m : ∃ m : Nat, s = m ∧ m < 4294967296 ∧ ∀ f, m.testBit f = true ↔ ∃ a ∈ pre, a.slot = t ∧ a.frm = f
theorem attsGo_iff (slots : Int) : ∀ (l pre : List Att) (s t : Int), (∀ a ∈ pre, attOk a slots = true) → pre.Pairwise okA → AtBits pre s t → t = (match pre.getLast? with | none => -1 | some q => q.slot) →
    (attsGo slots pre.getLast? s t l = true ↔ (∀ a ∈ l, attOk a slots = true) ∧ (pre ++ l).Pairwise okA)
  | [], pre, s, t, _, hp, _, _ => by simp [attsGo, hp]
  | a :: r, pre, s, t, ho, hp, hbs, ht => by
    obtain ⟨m, rfl, hm, hbits⟩ := hbs.m
    have hlast : ∀ x ∈ pre, ∃ q, pre.getLast? = some q ∧ (x = q ∨ ltA x q) := by
      intro x hx
      obtain ⟨i, hi, rfl⟩ := List.getElem_of_mem hx
      have hne : pre ≠ [] := List.ne_nil_of_mem hx
      refine ⟨pre.getLast hne, List.getLast?_eq_some_getLast hne, ?_⟩
      rw [List.getLast_eq_getElem]
      by_cases e : i = pre.length - 1
      · left; simp [e]
      · right; exact (List.pairwise_iff_getElem.1 hp i (pre.length - 1) hi (by omega) (by omega)).1
    rw [attsGo]
    by_cases ha : attOk a slots = true
    case neg =>
      simp only [Bool.not_eq_true] at ha
      simp [ha]
    have hf := attOk_frm ha
    obtain ⟨f, hfe⟩ : ∃ f : Nat, a.frm = f := ⟨a.frm.toNat, by omega⟩
    have hf32 : f < 32 := by omega
    by_cases hb : befores pre.getLast? a = true
    case neg =>
      simp only [Bool.not_eq_true] at hb
      simp only [hb, Bool.false_and, Bool.and_false, Bool.false_eq_true, false_iff, not_and]
      intro _ hpw
      cases hl : pre.getLast? with
      | none => rw [hl] at hb; simp [befores] at hb
      | some q =>
        rw [hl] at hb
        simp only [befores, decide_eq_false_iff_not] at hb
        have hq : q ∈ pre := List.mem_of_getLast? hl
        exact hb ((cmpA_lt q a).2 ((List.pairwise_append.1 hpw).2.2 q hq a (by simp)).1)
    have hlt : ∀ x ∈ pre, ltA x a := by
      intro x hx
      obtain ⟨q, hq, h⟩ := hlast x hx
      rw [hq] at hb
      simp only [befores, decide_eq_true_eq] at hb
      have hqa := (cmpA_lt q a).1 hb
      rcases h with rfl | h
      · exact hqa
      · exact ltA_trans h hqa
    have hslot : ∀ x ∈ pre, x.slot = a.slot → a.slot = t := by
      intro x hx e
      obtain ⟨q, hq, h⟩ := hlast x hx
      rw [hq] at ht hb
      simp only at ht
      simp only [befores, decide_eq_true_eq] at hb
      have h1 := ltA_slot ((cmpA_lt q a).1 hb)
      rcases h with rfl | h
      · omega
      · have := ltA_slot h; omega
    obtain ⟨m', hm', hm'lt, hbits'⟩ : ∃ m' : Nat, (if a.slot = t then (m : Int) else 0) = m' ∧ m' < 4294967296 ∧ ∀ f, m'.testBit f = true ↔ ∃ x ∈ pre, x.slot = a.slot ∧ x.frm = f := by
      by_cases e : a.slot = t
      · exact ⟨m, by rw [if_pos e], hm, fun f => by rw [hbits f, e]⟩
      · refine ⟨0, by rw [if_neg e]; rfl, by omega, fun f => ?_⟩
        simp only [Nat.zero_testBit, Bool.false_eq_true, false_iff]
        rintro ⟨x, hx, h1, _⟩
        exact e (hslot x hx h1)
    rw [hm', hfe, seen_nat m' f hm'lt hf32, ha, hb, Bool.true_and, Bool.true_and]
    by_cases hs : m'.testBit f = true
    · rw [hs]
      simp only [Bool.not_true, Bool.false_and, Bool.false_eq_true, false_iff, not_and]
      intro _ hpw
      obtain ⟨x, hx, h1, h2⟩ := (hbits' f).1 hs
      exact ((List.pairwise_append.1 hpw).2.2 x hx a (by simp)).2 ⟨h1, by omega⟩
    simp only [Bool.not_eq_true] at hs
    rw [hs]
    obtain ⟨hmk, hmklt⟩ := mark_nat m' f hm'lt hf32
    have hpa : (pre ++ [a]).Pairwise okA := by
      refine List.pairwise_append.2 ⟨hp, by simp, fun x hx y hy => ?_⟩
      simp only [List.mem_singleton] at hy
      subst hy
      refine ⟨hlt x hx, fun h => ?_⟩
      have := (hbits' f).2 ⟨x, hx, h.1, by omega⟩
      rw [this] at hs; cases hs
    have ih := attsGo_iff slots r (pre ++ [a]) (mark m' f) a.slot (by
      intro x hx
      simp only [List.mem_append, List.mem_singleton] at hx
      rcases hx with hx | rfl
      · exact ho x hx
      · exact ha) hpa ⟨m' ||| 2 ^ f, hmk, hmklt, fun g => by
        rw [Nat.testBit_or, Bool.or_eq_true, hbits' g, Nat.testBit_two_pow]
        constructor
        · rintro (⟨x, hx, h⟩ | h)
          · exact ⟨x, by simp [hx], h⟩
          · simp only [decide_eq_true_eq] at h
            exact ⟨a, by simp, rfl, by omega⟩
        · rintro ⟨x, hx, h1, h2⟩
          simp only [List.mem_append, List.mem_singleton] at hx
          rcases hx with hx | rfl
          · exact .inl ⟨x, hx, h1, h2⟩
          · right; simp; omega⟩ (by simp)
    rw [List.getLast?_concat] at ih
    simp only [Bool.not_false, Bool.true_and]
    rw [ih]
    simp [ha]
theorem attsGo_AttsP (slots : Int) (l : List Att) : attsGo slots none 0 (-1) l = true ↔ AttsP slots l := by
  have := attsGo_iff slots l [] 0 (-1) (by simp) (by simp) ⟨0, rfl, by omega, fun f => by simp⟩ rfl
  simpa [AttsP] using this
def ltD (a b : Del) : Prop := a.slot < b.slot ∨ a.slot = b.slot ∧ a.flow < b.flow
def delOk (d : Del) (slots : Int) : Prop := 0 ≤ d.flow ∧ d.flow < 256 ∧ 0 ≤ d.frame ∧ d.frame < 1048576 ∧ 0 ≤ d.slot ∧ d.slot < slots
def DelsP (slots : Int) (l : List Del) : Prop := (∀ d ∈ l, delOk d slots) ∧ l.Pairwise ltD
theorem delsGo_iff (slots : Int) : ∀ (l : List Del) (p : Option Del), delsGo slots p l = true ↔ (∀ d ∈ l, delOk d slots) ∧ l.Pairwise ltD ∧ ∀ q, p = some q → ∀ d ∈ l, ltD q d
  | [], p => by simp [delsGo]
  | d :: r, p => by
    rw [delsGo]
    simp only [Bool.and_eq_true, delsGo_iff slots r (some d), belowB, decide_eq_true_eq, List.mem_cons, forall_eq_or_imp, List.pairwise_cons]
    have hb : beforesD p d = true ↔ ∀ q, p = some q → ltD q d := by
      cases p with
      | none => simp [beforesD]
      | some q =>
        simp only [beforesD, decide_eq_true_eq, orI_cmp, ltD, Option.some.injEq, forall_eq']
        simp [orI]
    rw [hb]
    constructor
    · rintro ⟨h1, h2, h3, h4, h5, h6, h7⟩
      have h7 := h7 d rfl
      exact ⟨⟨⟨h1.1, h1.2, h2.1, h2.2, h3.1, h3.2⟩, h5⟩, ⟨h7, h6⟩, fun q hq => ⟨h4 q hq, fun x hx => by have a := h4 q hq; have b := h7 x hx; unfold ltD at *; omega⟩⟩
    · rintro ⟨⟨h1, h5⟩, ⟨h7, h6⟩, h8⟩
      obtain ⟨a1, a2, a3, a4, a5, a6⟩ := h1
      exact ⟨⟨a1, a2⟩, ⟨a3, a4⟩, ⟨a5, a6⟩, fun q hq => (h8 q hq).1, h5, h6, fun q hq => by cases hq; exact h7⟩
structure InOrder (r : Rec) : Prop where
  s0 : 0 ≤ r.slots
  s1 : r.slots ≤ 4096
  al : r.atts.length ≤ 65536
  dl : r.dels.length ≤ 65536
  atts : AttsP r.slots r.atts
  dels : DelsP r.slots r.dels
theorem checkB_iff (r : Rec) : checkB r = true ↔ InOrder r := by
  unfold checkB
  simp only [Bool.and_eq_true, decide_eq_true_eq, attsGo_AttsP, delsGo_iff]
  constructor
  · rintro ⟨h1, h2, h3, h4, h5, h6, h7, _⟩
    exact ⟨h1, h2, h3, h4, h5, h6, h7⟩
  · rintro ⟨h1, h2, h3, h4, h5, h6, h7⟩
    exact ⟨h1, h2, h3, h4, h5, h6, h7, fun q hq => by cases hq⟩
theorem check_iff (r : Rec) : check r = 0 ↔ InOrder r := by
  rw [← checkB_iff]
  unfold check
  split <;> simp_all
end Go.Proofs.Ytcohdlochpjnjaa
end
section
open Go Go.Vm
namespace Go.Proofs.Ytcohdlochpjnjaa
/-! Records and their bytes, over any reader of varying numbers. -/
attribute [local irreducible] nx num
structure Rdr (rd : Q3 → Q3) : Prop where
  sticky : ∀ q, (rd q).2.2 = false → q.2.2 = false
  digs : ∀ u n rest, n < 268435456 → rd (u, ba (digs n ++ rest), false) = ((n : Int), ba rest, false)
  inv : ∀ u v l d', rd (u, ba l, false) = (v, d', false) → ∃ (n : Nat) (rest : List UInt8), v = n ∧ n < 34359738368 ∧ l = Go.Proofs.Ytcohdlochpjnjaa.digs n ++ rest ∧ d' = ba rest
theorem nx_rdr : Rdr nx := ⟨fun q h => ((nx_size q).2 h).2, fun u n rest h => nx_digs u n (by omega) rest, fun u v l d' h => nx_inv u v l d' h⟩
def u8s (ns : List Int) : List UInt8 := ns.map fun k => UInt8.ofNat k.toNat
def wr (ns : List Int) : List UInt8 := u8s (ns.flatMap varI)
theorem u8s_append (a b : List Int) : u8s (a ++ b) = u8s a ++ u8s b := by simp [u8s]
theorem wr_nil : wr [] = [] := rfl
theorem wr_cons (n : Int) (ns : List Int) : wr (n :: ns) = u8s (varI n) ++ wr ns := by simp [wr, u8s]
theorem u8s_varI (n : Nat) : u8s (varI n) = digs n := varI_digs n
def Sm (n : Int) : Prop := 0 ≤ n ∧ n < 268435456
theorem Rdr.wr {rd : Q3 → Q3} (h : Rdr rd) (u n : Int) (ns : List Int) (rest : List UInt8) (hn : Sm n) : rd (u, ba (wr (n :: ns) ++ rest), false) = (n, ba (wr ns ++ rest), false) := by
  obtain ⟨h0, h1⟩ := hn
  obtain ⟨k, rfl⟩ := Int.eq_ofNat_of_zero_le h0
  rw [wr_cons, u8s_varI, List.append_assoc]
  exact h.digs u k _ (by omega)
def rd8 (rd : Q3 → Q3) (q : Q3) : Q3 := rd (rd (rd (rd (rd (rd (rd (rd q)))))))
def rd3 (rd : Q3 → Q3) (q : Q3) : Q3 := rd (rd (rd q))
def gAtt (rd : Q3 → Q3) (t : Int) (q : Q3) : Att :=
  ⟨i64w (t + (rd q).1), (rd (rd q)).1, (rd (rd (rd q))).1, (rd (rd (rd (rd q)))).1, (rd (rd (rd (rd (rd q))))).1, (rd (rd (rd (rd (rd (rd q)))))).1, (rd (rd (rd (rd (rd (rd (rd q))))))).1, (rd (rd (rd (rd (rd (rd (rd (rd q)))))))).1⟩
def gDel (rd : Q3 → Q3) (t : Int) (q : Q3) : Del := ⟨(rd (rd q)).1, (rd (rd (rd q))).1, i64w (t + (rd q).1)⟩
def gA (rd : Q3 → Q3) : Nat → Int → Q3 → List Att × Q3
  | 0, _, q => ([], q)
  | m + 1, t, q => if q.2.2 = true then ([], q) else (gAtt rd t q :: (gA rd m (i64w (t + (rd q).1)) (rd8 rd q)).1, (gA rd m (i64w (t + (rd q).1)) (rd8 rd q)).2)
def gD (rd : Q3 → Q3) : Nat → Int → Q3 → List Del × Q3
  | 0, _, q => ([], q)
  | m + 1, t, q => if q.2.2 = true then ([], q) else (gDel rd t q :: (gD rd m (i64w (t + (rd q).1)) (rd3 rd q)).1, (gD rd m (i64w (t + (rd q).1)) (rd3 rd q)).2)
theorem gA_nx : ∀ n t q, decA n t q = gA nx n t q
  | 0, _, _ => rfl
  | n + 1, t, q => by
    rw [decA, gA]
    split
    · rfl
    · rw [gA_nx]; rfl
theorem gD_nx : ∀ n t q, decD n t q = gD nx n t q
  | 0, _, _ => rfl
  | n + 1, t, q => by
    rw [decD, gD]
    split
    · rfl
    · rw [gD_nx]; rfl
def gqA (rd : Q3 → Q3) (d : ByteArray) : Q3 := rd (0, d, false)
def gqB (rd : Q3 → Q3) (d : ByteArray) : Q3 := rd (gqA rd d)
def grA (rd : Q3 → Q3) (d : ByteArray) : List Att × Q3 := gA rd (gqB rd d).1.toNat 0 (gqB rd d)
def gqD (rd : Q3 → Q3) (d : ByteArray) : Q3 := rd (grA rd d).2
def grD (rd : Q3 → Q3) (d : ByteArray) : List Del × Q3 := gD rd (gqD rd d).1.toNat 0 (gqD rd d)
def gRec (rd : Q3 → Q3) (d : ByteArray) : Rec := ⟨(gqA rd d).1, (grA rd d).1.isEmpty, (grA rd d).1, (grD rd d).1.isEmpty, (grD rd d).1⟩
/-- What a decoder with that reader accepts. -/
def GOk (rd : Q3 → Q3) (d : ByteArray) : Prop := (grD rd d).2.2.2 = false ∧ (grD rd d).2.2.1.toList = [] ∧ InOrder (gRec rd d)
theorem decOk_iff (d : ByteArray) : decOk d = true ↔ GOk nx d := by
  have e : recOf d = gRec nx d := by simp [recOf, gRec, rD, grD, rA, grA, qA, gqA, qB, gqB, qD, gqD, gA_nx, gD_nx]
  have e2 : rD d = grD nx d := by simp [rD, grD, rA, grA, qA, gqA, qB, gqB, qD, gqD, gA_nx, gD_nx]
  unfold decOk GOk
  rw [e, e2, ← check_iff]
  simp
theorem recOf_eq (d : ByteArray) : recOf d = gRec nx d := by simp [recOf, gRec, rD, grD, rA, grA, qA, gqA, qB, gqB, qD, gqD, gA_nx, gD_nx]
theorem i64w_eq {n : Int} (h1 : -9223372036854775808 ≤ n) (h2 : n ≤ 9223372036854775807) : i64w n = n := wrap_i64 h1 (by omega)
theorem attOk_sm {a : Att} {s : Int} (h : attOk a s = true) (hs : s ≤ 4096) : 0 ≤ a.slot ∧ a.slot < s ∧ Sm a.frame ∧ Sm a.cslot ∧ Sm a.off ∧ Sm a.frm ∧ Sm a.to ∧ Sm a.flow ∧ Sm a.out := by
  simp only [attOk, belowB, Bool.and_eq_true, decide_eq_true_eq] at h
  unfold Sm
  omega
theorem gA_enc {rd : Q3 → Q3} (h : Rdr rd) (s : Int) (hs : s ≤ 4096) : ∀ (l : List Att) (t u : Int) (rest : List UInt8), 0 ≤ t → (∀ a ∈ l, attOk a s = true) → l.Pairwise okA → (∀ a ∈ l, t ≤ a.slot) →
    ∃ u', gA rd l.length t (u, ba (u8s (attsEnc t l) ++ rest), false) = (l, (u', ba rest, false))
  | [], t, u, rest, _, _, _, _ => ⟨u, by simp [gA, attsEnc, u8s]⟩
  | a :: l, t, u, rest, ht, ho, hp, hts => by
    obtain ⟨a0, a1, m1, m2, m3, m4, m5, m6, m7⟩ := attOk_sm (ho a (by simp)) hs
    have hta := hts a (by simp)
    have hd : i64w (a.slot - t) = a.slot - t := i64w_eq (by omega) (by omega)
    have m0 : Sm (a.slot - t) := ⟨by omega, by omega⟩
    have hd2 : i64w (t + (a.slot - t)) = a.slot := by rw [show t + (a.slot - t) = a.slot by omega]; exact i64w_eq (by omega) (by omega)
    have hp' := List.pairwise_cons.1 hp
    obtain ⟨u', hu⟩ := gA_enc h s hs l a.slot a.out rest a0 (fun x hx => ho x (by simp [hx])) hp'.2 (fun x hx => ltA_slot (hp'.1 x hx).1)
    have e : u8s (attsEnc t (a :: l)) ++ rest = wr [a.slot - t, a.frame, a.cslot, a.off, a.frm, a.to, a.flow, a.out] ++ (u8s (attsEnc a.slot l) ++ rest) := by
      rw [attsEnc, u8s_append, attNs, hd, wr, List.append_assoc]
    refine ⟨u', ?_⟩
    rw [e, List.length_cons, gA, if_neg (by simp)]
    unfold gAtt rd8
    rw [h.wr _ _ _ _ m0, h.wr _ _ _ _ m1, h.wr _ _ _ _ m2, h.wr _ _ _ _ m3, h.wr _ _ _ _ m4, h.wr _ _ _ _ m5, h.wr _ _ _ _ m6, h.wr _ _ _ _ m7]
    simp only [hd2, wr_nil, List.nil_append, hu]
theorem gD_enc {rd : Q3 → Q3} (h : Rdr rd) (s : Int) (hs : s ≤ 4096) : ∀ (l : List Del) (t u : Int) (rest : List UInt8), 0 ≤ t → (∀ a ∈ l, delOk a s) → l.Pairwise ltD → (∀ a ∈ l, t ≤ a.slot) →
    ∃ u', gD rd l.length t (u, ba (u8s (delsEnc t l) ++ rest), false) = (l, (u', ba rest, false))
  | [], t, u, rest, _, _, _, _ => ⟨u, by simp [gD, delsEnc, u8s]⟩
  | a :: l, t, u, rest, ht, ho, hp, hts => by
    obtain ⟨a0, a1, a2, a3, a4, a5⟩ := ho a (by simp)
    have hta := hts a (by simp)
    have hd : i64w (a.slot - t) = a.slot - t := i64w_eq (by omega) (by omega)
    have m0 : Sm (a.slot - t) := ⟨by omega, by omega⟩
    have m1 : Sm a.flow := ⟨by omega, by omega⟩
    have m2 : Sm a.frame := ⟨by omega, by omega⟩
    have hd2 : i64w (t + (a.slot - t)) = a.slot := by rw [show t + (a.slot - t) = a.slot by omega]; exact i64w_eq (by omega) (by omega)
    have hp' := List.pairwise_cons.1 hp
    obtain ⟨u', hu⟩ := gD_enc h s hs l a.slot a.frame rest a4 (fun x hx => ho x (by simp [hx])) hp'.2 (fun x hx => by have := hp'.1 x hx; unfold ltD at this; omega)
    have e : u8s (delsEnc t (a :: l)) ++ rest = wr [a.slot - t, a.flow, a.frame] ++ (u8s (delsEnc a.slot l) ++ rest) := by
      rw [delsEnc, u8s_append, delNs, hd, wr, List.append_assoc]
    refine ⟨u', ?_⟩
    rw [e, List.length_cons, gD, if_neg (by simp)]
    unfold gDel rd3
    rw [h.wr _ _ _ _ m0, h.wr _ _ _ _ m1, h.wr _ _ _ _ m2]
    simp only [hd2, wr_nil, List.nil_append, hu]
def norm (r : Rec) : Rec := ⟨r.slots, r.atts.isEmpty, r.atts, r.dels.isEmpty, r.dels⟩
theorem norm_inOrder {r : Rec} : InOrder (norm r) ↔ InOrder r := ⟨fun h => ⟨h.s0, h.s1, h.al, h.dl, h.atts, h.dels⟩, fun h => ⟨h.s0, h.s1, h.al, h.dl, h.atts, h.dels⟩⟩
theorem encB_wr (r : Rec) : u8s (encB r) = wr [r.slots, (r.atts.length : Int)] ++ (u8s (attsEnc 0 r.atts) ++ (wr [(r.dels.length : Int)] ++ u8s (delsEnc 0 r.dels))) := by
  unfold encB
  rw [u8s_append, u8s_append, u8s_append]
  rfl
theorem g_enc_rest {rd : Q3 → Q3} (h : Rdr rd) {r : Rec} (ho : InOrder r) (rest : List UInt8) : gRec rd (ba (u8s (encB r) ++ rest)) = norm r ∧ (grD rd (ba (u8s (encB r) ++ rest))).2.2 = (ba rest, false) := by
  have m0 : Sm r.slots := ⟨ho.s0, by have := ho.s1; omega⟩
  have m1 : Sm (r.atts.length : Int) := ⟨by omega, by have := ho.al; omega⟩
  have m2 : Sm (r.dels.length : Int) := ⟨by omega, by have := ho.dl; omega⟩
  have eb : ba (u8s (encB r) ++ rest) = ba (wr [r.slots, (r.atts.length : Int)] ++ (u8s (attsEnc 0 r.atts) ++ (wr [(r.dels.length : Int)] ++ (u8s (delsEnc 0 r.dels) ++ rest)))) := by
    rw [encB_wr]
    simp only [List.append_assoc]
  generalize ba (u8s (encB r) ++ rest) = d at *
  have e1 : gqA rd d = (r.slots, ba (wr [(r.atts.length : Int)] ++ (u8s (attsEnc 0 r.atts) ++ (wr [(r.dels.length : Int)] ++ (u8s (delsEnc 0 r.dels) ++ rest)))), false) := by
    rw [gqA, eb]; exact h.wr _ _ _ _ m0
  have e2 : gqB rd d = ((r.atts.length : Int), ba (u8s (attsEnc 0 r.atts) ++ (wr [(r.dels.length : Int)] ++ (u8s (delsEnc 0 r.dels) ++ rest))), false) := by
    rw [gqB, e1]; exact h.wr _ _ _ _ m1
  obtain ⟨u', e3⟩ := gA_enc h r.slots ho.s1 r.atts 0 (r.atts.length : Int) (wr [(r.dels.length : Int)] ++ (u8s (delsEnc 0 r.dels) ++ rest)) (by omega) ho.atts.1 ho.atts.2 (fun a ha => (attOk_sm (ho.atts.1 a ha) ho.s1).1)
  have e3 : grA rd d = (r.atts, (u', ba (wr [(r.dels.length : Int)] ++ (u8s (delsEnc 0 r.dels) ++ rest)), false)) := by
    rw [grA, e2]; simpa using e3
  have e4 : gqD rd d = ((r.dels.length : Int), ba (u8s (delsEnc 0 r.dels) ++ rest), false) := by
    rw [gqD, e3]; exact h.wr _ _ [] _ m2
  obtain ⟨u'', e5⟩ := gD_enc h r.slots ho.s1 r.dels 0 (r.dels.length : Int) rest (by omega) ho.dels.1 ho.dels.2 (fun a ha => (ho.dels.1 a ha).2.2.2.2.1)
  have e5 : grD rd d = (r.dels, (u'', ba rest, false)) := by
    rw [grD, e4]; simpa using e5
  refine ⟨?_, by rw [e5]⟩
  unfold gRec norm
  rw [e1, e3, e5]
theorem g_enc {rd : Q3 → Q3} (h : Rdr rd) {r : Rec} (ho : InOrder r) : gRec rd (bytesOf (encB r)) = norm r ∧ (grD rd (bytesOf (encB r))).2.2 = (ba [], false) := by
  have := g_enc_rest h ho []
  rw [List.append_nil] at this
  rw [bytesOf_ba]
  exact this
theorem ba_toList (l : List UInt8) : (ba l).toList = l := by
  rw [ByteArray.toList_eq]; simp [ba]
theorem g_enc_ok {rd : Q3 → Q3} (h : Rdr rd) {r : Rec} (ho : InOrder r) : GOk rd (bytesOf (encB r)) := by
  obtain ⟨h1, h2⟩ := g_enc h ho
  refine ⟨by rw [h2], by rw [h2]; exact ba_toList [], ?_⟩
  rw [h1]
  exact norm_inOrder.2 ho
theorem decode_enc {r : Rec} (ho : InOrder r) : decode (bytesOf (encB r)) = (norm r, 0) := by
  unfold decode
  rw [if_pos ((decOk_iff _).2 (g_enc_ok nx_rdr ho)), recOf_eq, (g_enc nx_rdr ho).1]
/-! What is accepted was written so. -/
theorem i64w_def (n : Int) : i64w n = (if n % 18446744073709551616 ≥ 9223372036854775808 then n % 18446744073709551616 - 18446744073709551616 else n % 18446744073709551616) := by
  simp [i64w, IntKind.wrap, IntKind.signed, IntKind.bits]
theorem i64w_back (t n : Int) (h0 : 0 ≤ n) (h1 : n < 34359738368) : i64w (i64w (t + n) - t) = n := by
  rw [i64w_def, i64w_def]
  split <;> split <;> omega
theorem Rdr.inv1 {rd : Q3 → Q3} (h : Rdr rd) {q : Q3} {l : List UInt8} (hl : q.2.1 = ba l) (hb : (rd q).2.2 = false) :
    ∃ l' : List UInt8, 0 ≤ (rd q).1 ∧ (rd q).1 < 34359738368 ∧ l = u8s (varI (rd q).1) ++ l' ∧ (rd q).2.1 = ba l' := by
  have h0 := h.sticky q hb
  obtain ⟨u, d, b⟩ := q
  simp only at h0 hl
  subst h0 hl
  obtain ⟨n, rest, h1, h2, h3, h4⟩ := h.inv u (rd (u, ba l, false)).1 l (rd (u, ba l, false)).2.1 (Prod.ext rfl (Prod.ext rfl hb))
  exact ⟨rest, by omega, by omega, by rw [h1, u8s_varI]; exact h3, h4⟩
theorem gA_sticky {rd : Q3 → Q3} (h : Rdr rd) : ∀ (n : Nat) (t : Int) (q : Q3), (gA rd n t q).2.2.2 = false → q.2.2 = false
  | 0, _, _, hq => hq
  | n + 1, t, q, hq => by
    rw [gA] at hq
    split at hq
    · exact hq
    · rename_i h'; simpa using h'
theorem gD_sticky {rd : Q3 → Q3} (h : Rdr rd) : ∀ (n : Nat) (t : Int) (q : Q3), (gD rd n t q).2.2.2 = false → q.2.2 = false
  | 0, _, _, hq => hq
  | n + 1, t, q, hq => by
    rw [gD] at hq
    split at hq
    · exact hq
    · rename_i h'; simpa using h'
theorem gA_inv {rd : Q3 → Q3} (h : Rdr rd) : ∀ (n : Nat) (t : Int) (q : Q3) (l : List UInt8), q.2.1 = ba l → (gA rd n t q).2.2.2 = false →
    (gA rd n t q).1.length = n ∧ ∃ rest, l = u8s (attsEnc t (gA rd n t q).1) ++ rest ∧ (gA rd n t q).2.2.1 = ba rest
  | 0, t, q, l, hl, _ => ⟨rfl, l, by simp [gA, attsEnc, u8s], hl⟩
  | n + 1, t, q, l, hl, hb => by
    have hq := gA_sticky h _ _ _ hb
    rw [gA, if_neg (by simp [hq])] at hb ⊢
    simp only at hb ⊢
    have b8 := gA_sticky h _ _ _ hb
    unfold rd8 at b8
    have b7 := h.sticky _ b8
    have b6 := h.sticky _ b7
    have b5 := h.sticky _ b6
    have b4 := h.sticky _ b5
    have b3 := h.sticky _ b4
    have b2 := h.sticky _ b3
    have b1 := h.sticky _ b2
    obtain ⟨l1, z1, y1, x1, w1⟩ := h.inv1 hl b1
    obtain ⟨l2, z2, y2, x2, w2⟩ := h.inv1 w1 b2
    obtain ⟨l3, z3, y3, x3, w3⟩ := h.inv1 w2 b3
    obtain ⟨l4, z4, y4, x4, w4⟩ := h.inv1 w3 b4
    obtain ⟨l5, z5, y5, x5, w5⟩ := h.inv1 w4 b5
    obtain ⟨l6, z6, y6, x6, w6⟩ := h.inv1 w5 b6
    obtain ⟨l7, z7, y7, x7, w7⟩ := h.inv1 w6 b7
    obtain ⟨l8, z8, y8, x8, w8⟩ := h.inv1 w7 b8
    obtain ⟨g1, rest, g2, g3⟩ := gA_inv h n (i64w (t + (rd q).1)) (rd8 rd q) l8 w8 hb
    refine ⟨by simp [g1], rest, ?_, g3⟩
    rw [attsEnc, u8s_append, List.append_assoc]
    simp only [gAtt, attNs, i64w_back t _ z1 y1]
    rw [← g2, List.flatMap_cons, List.flatMap_cons, List.flatMap_cons, List.flatMap_cons, List.flatMap_cons, List.flatMap_cons, List.flatMap_cons, List.flatMap_cons, List.flatMap_nil, List.append_nil]
    simp only [u8s_append, List.append_assoc]
    rw [← x8, ← x7, ← x6, ← x5, ← x4, ← x3, ← x2, ← x1]
theorem gD_inv {rd : Q3 → Q3} (h : Rdr rd) : ∀ (n : Nat) (t : Int) (q : Q3) (l : List UInt8), q.2.1 = ba l → (gD rd n t q).2.2.2 = false →
    (gD rd n t q).1.length = n ∧ ∃ rest, l = u8s (delsEnc t (gD rd n t q).1) ++ rest ∧ (gD rd n t q).2.2.1 = ba rest
  | 0, t, q, l, hl, _ => ⟨rfl, l, by simp [gD, delsEnc, u8s], hl⟩
  | n + 1, t, q, l, hl, hb => by
    have hq := gD_sticky h _ _ _ hb
    rw [gD, if_neg (by simp [hq])] at hb ⊢
    simp only at hb ⊢
    have b3 := gD_sticky h _ _ _ hb
    unfold rd3 at b3
    have b2 := h.sticky _ b3
    have b1 := h.sticky _ b2
    obtain ⟨l1, z1, y1, x1, w1⟩ := h.inv1 hl b1
    obtain ⟨l2, z2, y2, x2, w2⟩ := h.inv1 w1 b2
    obtain ⟨l3, z3, y3, x3, w3⟩ := h.inv1 w2 b3
    obtain ⟨g1, rest, g2, g3⟩ := gD_inv h n (i64w (t + (rd q).1)) (rd3 rd q) l3 w3 hb
    refine ⟨by simp [g1], rest, ?_, g3⟩
    rw [delsEnc, u8s_append, List.append_assoc]
    simp only [gDel, delNs, i64w_back t _ z1 y1]
    rw [← g2, List.flatMap_cons, List.flatMap_cons, List.flatMap_cons, List.flatMap_nil, List.append_nil]
    simp only [u8s_append, List.append_assoc]
    rw [← x3, ← x2, ← x1]
/-- What is read without a fault was written so, and something else behind it. -/
theorem g_inv {rd : Q3 → Q3} (h : Rdr rd) (l : List UInt8) (hb : (grD rd (ba l)).2.2.2 = false) : ∃ rest, l = u8s (encB (gRec rd (ba l))) ++ rest ∧ (grD rd (ba l)).2.2.1 = ba rest := by
  have b4 := gD_sticky h _ _ _ hb
  have b3 := h.sticky _ b4
  have b2 := gA_sticky h _ _ _ b3
  have b1 := h.sticky _ b2
  obtain ⟨l1, z1, y1, x1, w1⟩ := h.inv1 (q := (0, ba l, false)) rfl b1
  obtain ⟨l2, z2, y2, x2, w2⟩ := h.inv1 w1 b2
  obtain ⟨g1, l3, x3, w3⟩ := gA_inv h (gqB rd (ba l)).1.toNat 0 (gqB rd (ba l)) l2 w2 b3
  obtain ⟨l4, z4, y4, x4, w4⟩ := h.inv1 w3 b4
  obtain ⟨g2, l5, x5, w5⟩ := gD_inv h (gqD rd (ba l)).1.toNat 0 (gqD rd (ba l)) l4 w4 hb
  refine ⟨l5, ?_, w5⟩
  rw [encB_wr]
  have e1 : ((gRec rd (ba l)).atts.length : Int) = (gqB rd (ba l)).1 := by
    rw [show (gRec rd (ba l)).atts = (gA rd (gqB rd (ba l)).1.toNat 0 (gqB rd (ba l))).1 from rfl, g1]
    have : 0 ≤ (gqB rd (ba l)).1 := z2
    omega
  have e2 : ((gRec rd (ba l)).dels.length : Int) = (gqD rd (ba l)).1 := by
    rw [show (gRec rd (ba l)).dels = (gD rd (gqD rd (ba l)).1.toNat 0 (gqD rd (ba l))).1 from rfl, g2]
    have : 0 ≤ (gqD rd (ba l)).1 := z4
    omega
  rw [e1, e2, wr_cons, wr_cons, wr_cons, wr_nil]
  simp only [List.append_assoc, List.nil_append, List.append_nil]
  rw [show (gRec rd (ba l)).dels = (gD rd (gqD rd (ba l)).1.toNat 0 (gqD rd (ba l))).1 from rfl, show (gRec rd (ba l)).atts = (gA rd (gqB rd (ba l)).1.toNat 0 (gqB rd (ba l))).1 from rfl]
  refine x1.trans (congrArg _ (x2.trans (congrArg _ (x3.trans (congrArg _ (x4.trans (congrArg _ x5)))))))
theorem g_inv_ok {rd : Q3 → Q3} (h : Rdr rd) {d : ByteArray} (hd : GOk rd d) : d = bytesOf (encB (gRec rd d)) := by
  obtain ⟨h1, h2, _⟩ := hd
  rw [← ba_data d] at h1 h2 ⊢
  obtain ⟨rest, g1, g2⟩ := g_inv h d.data.toList h1
  rw [g2, ba_toList] at h2
  subst h2
  rw [List.append_nil] at g1
  rw [bytesOf_ba]
  exact congrArg ba g1
theorem u8s_length (l : List Int) : (u8s l).length = l.length := by simp [u8s]
theorem encB_norm (r : Rec) : encB (norm r) = encB r := rfl
/-- No true beginning of what is accepted is accepted. -/
theorem g_prefix {rd : Q3 → Q3} (h : Rdr rd) {r : Rec} (ho : InOrder r) (p q : List UInt8) (hq : q ≠ []) (hpq : u8s (encB r) = p ++ q) : ¬ GOk rd (ba p) := by
  intro hk
  obtain ⟨rest, g1, g2⟩ := g_inv h p hk.1
  have h2 := hk.2.1
  rw [g2, ba_toList] at h2
  subst h2
  rw [List.append_nil] at g1
  have e1 := (g_enc_rest h hk.2.2 q).2
  rw [← g1, ← hpq] at e1
  have e2 := (g_enc_rest h ho []).2
  rw [List.append_nil, e1] at e2
  have e3 := congrArg (fun z : ByteArray × Bool => z.1.toList) e2
  simp only [ba_toList] at e3
  exact hq e3
theorem decode_prefix {r : Rec} (ho : InOrder r) (k : Nat) (hk : k < (encB r).length) : decode ((bytesOf (encB r)).extract 0 k) = (zrec, 10) := by
  have e : (bytesOf (encB r)).extract 0 k = ba ((u8s (encB r)).take k) := by
    rw [bytesOf_ba]
    apply ByteArray.ext
    simp [ba, u8s]
  have hp := g_prefix nx_rdr ho ((u8s (encB r)).take k) ((u8s (encB r)).drop k) (by
    intro h
    have := congrArg List.length h
    simp [u8s_length] at this
    omega) (List.take_append_drop k _).symm
  rw [e]
  unfold decode
  rw [if_neg (fun h => hp ((decOk_iff _).1 h))]
theorem decode_inv {d : ByteArray} (h : (decode d).2 = 0) : InOrder (decode d).1 ∧ bytesOf (encB (decode d).1) = d := by
  unfold decode at h ⊢
  split at h
  · rename_i hk
    have hk := (decOk_iff d).1 hk
    rw [if_pos ((decOk_iff d).2 hk), recOf_eq]
    exact ⟨hk.2.2, (g_inv_ok nx_rdr hk).symm⟩
  · cases h
end Go.Proofs.Ytcohdlochpjnjaa
end
section
open Go Go.Vm
namespace Go.Proofs.Ytcohdlochpjnjaa
/-! How long the bytes of a record are. -/
theorem varI_len (n : Nat) : (varI (n : Int)).length ≤ n + 1 := by
  have h : (varI (n : Int)).length = (digs n).length := by rw [← u8s_varI, u8s_length]
  rw [h]
  clear h
  induction n using Nat.strongRecOn with
  | ind n ih =>
    rw [digs]
    split
    · simp
    · have := ih (n / 128) (by omega)
      simp only [List.length_cons]
      omega
theorem varI_leni (n : Int) (h : Sm n) (m : Nat) (hm : n < m) : (varI n).length ≤ m := by
  obtain ⟨h0, h1⟩ := h
  obtain ⟨k, rfl⟩ := Int.eq_ofNat_of_zero_le h0
  have := varI_len k
  omega
theorem attsEnc_len (s : Int) (hs : s ≤ 4096) : ∀ (l : List Att) (t : Int), 0 ≤ t → t ≤ 4096 → (∀ a ∈ l, attOk a s = true) → l.Pairwise okA → (∀ a ∈ l, t ≤ a.slot) → (attsEnc t l).length ≤ l.length * 2000000
  | [], t, _, _, _, _, _ => by simp [attsEnc]
  | a :: l, t, ht, ht2, ho, hp, hts => by
    have hk := ho a (by simp)
    simp only [attOk, belowB, Bool.and_eq_true, decide_eq_true_eq] at hk
    have hta := hts a (by simp)
    have hd : i64w (a.slot - t) = a.slot - t := i64w_eq (by omega) (by omega)
    have hp' := List.pairwise_cons.1 hp
    have ih := attsEnc_len s hs l a.slot (by omega) (by omega) (fun x hx => ho x (by simp [hx])) hp'.2 (fun x hx => ltA_slot (hp'.1 x hx).1)
    have b0 := varI_leni (a.slot - t) ⟨by omega, by omega⟩ 4096 (by omega)
    have b1 := varI_leni a.frame ⟨by omega, by omega⟩ 1048576 (by omega)
    have b2 := varI_leni a.cslot ⟨by omega, by omega⟩ 512 (by omega)
    have b3 := varI_leni a.off ⟨by omega, by omega⟩ 512 (by omega)
    have b4 := varI_leni a.frm ⟨by omega, by omega⟩ 512 (by omega)
    have b5 := varI_leni a.to ⟨by omega, by omega⟩ 512 (by omega)
    have b6 := varI_leni a.flow ⟨by omega, by omega⟩ 512 (by omega)
    have b7 := varI_leni a.out ⟨by omega, by omega⟩ 512 (by omega)
    simp only [attsEnc, attNs, hd, List.flatMap_cons, List.flatMap_nil, List.length_append, List.length_nil, List.length_cons]
    omega
theorem delsEnc_len (s : Int) (hs : s ≤ 4096) : ∀ (l : List Del) (t : Int), 0 ≤ t → t ≤ 4096 → (∀ a ∈ l, delOk a s) → l.Pairwise ltD → (∀ a ∈ l, t ≤ a.slot) → (delsEnc t l).length ≤ l.length * 2000000
  | [], t, _, _, _, _, _ => by simp [delsEnc]
  | a :: l, t, ht, ht2, ho, hp, hts => by
    have hk := ho a (by simp)
    unfold delOk at hk
    have hta := hts a (by simp)
    have hd : i64w (a.slot - t) = a.slot - t := i64w_eq (by omega) (by omega)
    have hp' := List.pairwise_cons.1 hp
    have ih := delsEnc_len s hs l a.slot (by omega) (by omega) (fun x hx => ho x (by simp [hx])) hp'.2 (fun x hx => by have := hp'.1 x hx; unfold ltD at this; omega)
    have b0 := varI_leni (a.slot - t) ⟨by omega, by omega⟩ 4096 (by omega)
    have b1 := varI_leni a.frame ⟨by omega, by omega⟩ 1048576 (by omega)
    have b6 := varI_leni a.flow ⟨by omega, by omega⟩ 512 (by omega)
    simp only [delsEnc, delNs, hd, List.flatMap_cons, List.flatMap_nil, List.length_append, List.length_nil, List.length_cons]
    omega
theorem enc_len {r : Rec} (h : InOrder r) : (encB r).length ≤ 1099511627776 := by
  have h1 := attsEnc_len r.slots h.s1 r.atts 0 (by omega) (by omega) h.atts.1 h.atts.2 (fun a ha => (attOk_sm (h.atts.1 a ha) h.s1).1)
  have h2 := delsEnc_len r.slots h.s1 r.dels 0 (by omega) (by omega) h.dels.1 h.dels.2 (fun a ha => (h.dels.1 a ha).2.2.2.2.1)
  have h3 := h.al
  have h4 := h.dl
  have b0 := varI_leni r.slots ⟨h.s0, by have := h.s1; omega⟩ 4097 (by have := h.s1; omega)
  have b1 := varI_leni (r.atts.length : Int) ⟨by omega, by omega⟩ 65537 (by omega)
  have b2 := varI_leni (r.dels.length : Int) ⟨by omega, by omega⟩ 65537 (by omega)
  simp only [encB, List.flatMap_cons, List.flatMap_nil, List.length_append, List.length_nil]
  omega
theorem enc_len2 {r : Rec} (h : InOrder r) (ha : r.atts.length ≤ 150) (hd : r.dels.length ≤ 100) : (encB r).length ≤ 1073741824 := by
  have h1 := attsEnc_len r.slots h.s1 r.atts 0 (by omega) (by omega) h.atts.1 h.atts.2 (fun a ha => (attOk_sm (h.atts.1 a ha) h.s1).1)
  have h2 := delsEnc_len r.slots h.s1 r.dels 0 (by omega) (by omega) h.dels.1 h.dels.2 (fun a ha => (h.dels.1 a ha).2.2.2.2.1)
  have b0 := varI_leni r.slots ⟨h.s0, by have := h.s1; omega⟩ 4097 (by have := h.s1; omega)
  have b1 := varI_leni (r.atts.length : Int) ⟨by omega, by omega⟩ 65537 (by omega)
  have b2 := varI_leni (r.dels.length : Int) ⟨by omega, by omega⟩ 65537 (by omega)
  simp only [encB, List.flatMap_cons, List.flatMap_nil, List.length_append, List.length_nil]
  omega
theorem enc_pos (r : Rec) : 0 < (encB r).length := by
  simp only [encB, List.flatMap_cons, List.flatMap_nil, List.length_append, List.length_nil]
  have : 0 < (varI r.slots).length := by rw [varI]; split <;> simp
  omega
theorem enc_size (r : Rec) : (bytesOf (encB r)).size = (encB r).length := by
  rw [bytesOf_ba, ba_size, List.length_map]
theorem enc_ne (r : Rec) : ((bytesOf (encB r)).toList == []) = false := by
  rw [bytesOf_ba, ba_toList]
  have := enc_pos r
  cases h : encB r with
  | nil => rw [h] at this; simp at this
  | cons x l => simp
end Go.Proofs.Ytcohdlochpjnjaa
end
