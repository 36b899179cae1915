/- What is late in the beginning of a record, and cannot be delivered any more, is late in the whole, in the same way: for any flows, record and slot, at most 20 flows, 150 attempts and 100 deliveries. -/
import Derived.Test.YtngbpmiikpjiaaaB6
import Derived.Test.YtngbpmiikpjiaaaRows
import Derived.ShutString
set_option linter.all false
section
open Go Go.Vm
namespace Go.Proofs.Ytngbpmiikpjiaaa
set_option maxRecDepth 100000
set_option maxHeartbeats 8000000
set_option linter.unusedSimpArgs false
attribute [-simp] isObj C.isO
attribute [local irreducible] Tri Does DoesB DoesR Rounds
theorem lateN_len (l : List Flo) (r : Rec) : (lateN l r).length ≤ 1073741824 := by
  unfold lateN
  split
  · rename_i hg
    obtain ⟨hl16, hfa, -⟩ := flows_ok hg.1
    obtain ⟨hs0, hs1⟩ := check_slots hg.2
    have := flatMap_le (fun f => lateF f r) 4097 l (fun f hf => by
      obtain ⟨i, hi, rfl⟩ := List.getElem_of_mem hf
      exact lateF_len _ r (hfa i hi) hs0 hs1)
    unfold lates
    omega
  · simp
theorem few56 {l : List Flo} {r : Rec} (h : (decide (l.length ≤ 20) && (decide (r.atts.length ≤ 150) && decide (r.dels.length ≤ 100))) = true) : l.length ≤ 20 ∧ r.atts.length ≤ 150 ∧ r.dels.length ≤ 100 := by
  simp only [Bool.and_eq_true, decide_eq_true_eq] at h
  exact h
theorem monitorLate_does (l : List Flo) (nl : Bool) (r : Rec) (hn : nl = true → l = []) (ha : r.an = true → r.atts = []) (hd : r.dn = true → r.dels = []) : Does Try.prog 3 [.c (.sl nl 6 none (l.map floC)), .agg (recC r)] (.c (.bool true)) := by
  refine Does.of_body Try.func3 rfl (by kernel_rfl) rfl rfl (by simp) ?_
  intro E
  have h0 := awake_does
  have h1 := few56_does l nl r
  have h4 := late_does l nl r
  have h5 := lateR_does l nl r
  have h6 := sameLate_does (lateN l r) (lateN l r).isEmpty (lateN l r).isEmpty (lateN_len l r)
  simp only [recC] at h1 h4 h5 ⊢
  cases g : (decide (l.length ≤ 20) && (decide (r.atts.length ≤ 150) && decide (r.dels.length ≤ 100)))
  · rw [g] at h1
    repeat (first
      | (refine Tri.seq fun K hK => ?_)
      | (refine Tri.region ?_; simp [upd])
      | (refine Tri.draw (by kernel_rfl) (by decide +kernel) ?_; simp [upd])
      | (refine Tri.cond_true ?_ ?_; (focus simp [upd]; done))
      | (refine Tri.cond_false ?_ ?_; (focus simp [upd]; done))
      | (refine Tri.skip ?_; simp only [thenS, blockS])
      | (refine Tri.block_seq ?_)
      | (refine Tri.block_region ?_)
      | (refine Tri.block_cond ?_)
      | ((with_reducible refine CallK.pure (h0) (Wks.refl _) ?_); simp [upd])
      | ((with_reducible refine CallK.pure (h1) (Wks.refl _) ?_); simp [upd])
      | (refine Tri.exit ?_; simp [upd]; first | (rename ∀ st, Tri _ _ _ st _ → _ => hK; first | (apply hK; clear hK) | (clear hK; rename ∀ st, Tri _ _ _ st _ → _ => hK; first | (apply hK; clear hK) | (clear hK; rename ∀ st, Tri _ _ _ st _ → _ => hK; first | (apply hK; clear hK) | (clear hK; rename ∀ st, Tri _ _ _ st _ → _ => hK; first | (apply hK; clear hK) | (clear hK; rename ∀ st, Tri _ _ _ st _ → _ => hK; first | (apply hK; clear hK) | (clear hK; rename ∀ st, Tri _ _ _ st _ → _ => hK; apply hK; clear hK)))))) | skip)
      | (intro β)
      | (rename ∀ st, Tri _ _ _ st _ → _ => hK; apply hK; clear hK))
    refine Tri.ret ⟨_, rfl, ?_⟩
    simp [upd]
    exact Wk.refl _
  · obtain ⟨b1, b2, b3⟩ := few56 g
    rw [g] at h1
    have h2 := cloneF_does l nl hn (by omega)
    have h3 := cp_does r ⟨ha, hd, by omega, by omega⟩
    simp only [recC] at h3
    generalize lateN l r = y at *
    generalize lateE l r = e at *
    repeat (first
      | (refine Tri.seq fun K hK => ?_)
      | (refine Tri.region ?_; simp [upd])
      | (refine Tri.draw (by kernel_rfl) (by decide +kernel) ?_; simp [upd])
      | (refine Tri.draw2 [] [0, 1, 2, 3, 4, 5, 6, 7, 8, 9] [] [] (by kernel_rfl) (by kernel_rfl) (by decide) (by rfl) (by decide +kernel) ?_; simp [upd])
      | (refine Tri.cond_true ?_ ?_; (focus simp [upd]; done))
      | (refine Tri.cond_false ?_ ?_; (focus simp [upd]; done))
      | (refine Tri.skip ?_; simp only [thenS, blockS])
      | (refine Tri.block_seq ?_)
      | (refine Tri.block_region ?_)
      | (refine Tri.block_cond ?_)
      | ((with_reducible refine CallK.pure (h0) (Wks.refl _) ?_); simp [upd])
      | ((with_reducible refine CallK.pure (h1) (Wks.refl _) ?_); simp [upd])
      | ((with_reducible refine CallK.pure (h2) (Wks.refl _) ?_); simp [upd])
      | ((with_reducible refine CallK.pure (h3) (Wks.refl _) ?_); simp [upd])
      | ((with_reducible refine CallK.pure (h4) (Wks.refl _) ?_); simp [upd])
      | ((with_reducible refine CallK.pure (h5) (Wks.refl _) ?_); simp [upd])
      | ((with_reducible refine CallK.pure (h6) (Wks.refl _) ?_); simp [upd])
      | (refine Tri.exit ?_; simp [upd]; first | (rename ∀ st, Tri _ _ _ st _ → _ => hK; first | (apply hK; clear hK) | (clear hK; rename ∀ st, Tri _ _ _ st _ → _ => hK; first | (apply hK; clear hK) | (clear hK; rename ∀ st, Tri _ _ _ st _ → _ => hK; first | (apply hK; clear hK) | (clear hK; rename ∀ st, Tri _ _ _ st _ → _ => hK; first | (apply hK; clear hK) | (clear hK; rename ∀ st, Tri _ _ _ st _ → _ => hK; first | (apply hK; clear hK) | (clear hK; rename ∀ st, Tri _ _ _ st _ → _ => hK; apply hK; clear hK)))))) | skip)
      | (intro β)
      | (rename ∀ st, Tri _ _ _ st _ → _ => hK; apply hK; clear hK))
    refine Tri.ret ⟨_, rfl, ?_⟩
    simp [upd]
    exact Wk.refl _
end Go.Proofs.Ytngbpmiikpjiaaa
end
section
open Go Go.Vm
namespace Go.Proofs.Ytngbpmiikpjiaaa
set_option maxRecDepth 100000
set_option maxHeartbeats 1000000
set_option linter.unusedSimpArgs false
attribute [local irreducible] Tri Does DoesB Rounds
def fA (s : Int) (l : List Att) : List Att := l.filter fun a => decide (a.slot < s)
def fD (s : Int) (l : List Del) : List Del := l.filter fun d => decide (d.slot < s)
def cut (r : Rec) (s : Int) : Rec × Int := if check r = 0 then (if s < 0 ∨ r.slots < s then (zrec, 2) else (⟨s, (fA s r.atts).isEmpty, fA s r.atts, (fD s r.dels).isEmpty, fD s r.dels⟩, 0)) else (zrec, 1)
theorem fA_take (s : Int) (l : List Att) (k : Nat) (hk : k < l.length) : fA s (l.take (k + 1)) = fA s (l.take k) ++ if l[k].slot < s then [l[k]] else [] := by
  unfold fA
  rw [List.take_succ_eq_append_getElem hk, List.filter_append]
  congr 1
  by_cases h : l[k].slot < s <;> simp [h]
theorem fD_take (s : Int) (l : List Del) (k : Nat) (hk : k < l.length) : fD s (l.take (k + 1)) = fD s (l.take k) ++ if l[k].slot < s then [l[k]] else [] := by
  unfold fD
  rw [List.take_succ_eq_append_getElem hk, List.filter_append]
  congr 1
  by_cases h : l[k].slot < s <;> simp [h]
theorem fA_le (s : Int) (l : List Att) (k : Nat) : (fA s (l.take k)).length ≤ k := Nat.le_trans (List.length_filter_le ..) (List.length_take_le ..)
theorem fD_le (s : Int) (l : List Del) (k : Nat) : (fD s (l.take k)).length ≤ k := Nat.le_trans (List.length_filter_le ..) (List.length_take_le ..)
structure XI (r : Rec) (s : Int) (st : St) (b2 b4 b6 : Nat) (G H : C) : Prop where
  hn : st.n = 71
  s1 : st.sl 1 = .c (.int .i64 s)
  s2 : st.sl 2 = .c (.box 2 b2 0)
  x2 : st.bx 2 = some (b2, [.int .i64 r.slots, .sl r.an 8 none (r.atts.map attC), .sl r.dn 3 none (r.dels.map delC)])
  s4 : st.sl 4 = .c (.box 4 b4 0)
  x4 : st.bx 4 = some (b4, [.int .i64 0, .sl true 0 none [], .sl true 0 none []])
  s6 : st.sl 6 = .c (.box 6 b6 0)
  x6 : st.bx 6 = some (b6, [.int .i64 s, G, H])
def XInv1 (r : Rec) (s : Int) (k : Nat) (st : St) : Prop := ∃ b2 b4 b6 G, XI r s st b2 b4 b6 G (.sl true 0 none []) ∧ st.sl 30 = .c (.sl r.an 8 none (r.atts.map attC)) ∧ GC st G 45 66 8 ((fA s (r.atts.take k)).map attC)
def XInv2 (r : Rec) (s : Int) (k : Nat) (st : St) : Prop := ∃ b2 b4 b6 G H, XI r s st b2 b4 b6 G H ∧ st.sl 51 = .c (.sl r.dn 3 none (r.dels.map delC)) ∧ GC st G 45 66 8 ((fA s r.atts).map attC) ∧ GC st H 66 54 3 ((fD s (r.dels.take k)).map delC)
theorem XI.put {r : Rec} {s : Int} {st : St} {b2 b4 b6 : Nat} {G H : C} (h : XI r s st b2 b4 b6 G H) (t : Nat) (v : V) (ht : t ≠ 1 ∧ t ≠ 2 ∧ t ≠ 4 ∧ t ≠ 6) : XI r s (st.put (some t) v) b2 b4 b6 G H := by
  obtain ⟨h1, h2, h3, h4⟩ := ht
  exact ⟨h.hn, by simp [upd, h1.symm, h.s1], by simp [upd, h2.symm, h.s2], h.x2, by simp [upd, h3.symm, h.s4], h.x4, by simp [upd, h4.symm, h.s6], h.x6⟩
theorem cut_does (r : Rec) (s : Int) : Does Try.prog 33 [.agg (recC r), .c (.int .i64 s)] (.tup [.agg (recC (cut r s).1), .c (.int .i64 (cut r s).2)]) := by
  refine Does.of_body Try.func33 rfl (by kernel_rfl) rfl rfl (by simp) ?_
  intro E
  have hck := check_does r
  have wZ : Wk (.agg [.int .i64 0, .sl true 0 none [], .sl true 0 none []]) (.agg (recC zrec)) := .agg3 (.refl _) (.nil _ _ _ _) (.nil _ _ _ _)
  cases hc : (check r == 0)
  case false =>
    have e : cut r s = (zrec, 1) := by rw [cut, if_neg (by simpa using hc)]
    rw [e]
    simp only [recC] at hck ⊢
    repeat (first
      | (refine Tri.seq fun K hK => ?_)
      | (refine Tri.region ?_; simp [upd, hc, bne])
      | (refine Tri.draw (by kernel_rfl) (by decide +kernel) ?_; simp [upd, hc, bne])
      | (refine Tri.cond_true ?_ ?_; (focus simp [upd, hc, bne]; done))
      | (refine Tri.cond_false ?_ ?_; (focus simp [upd, hc, bne]; done))
      | (refine Tri.skip ?_; simp only [thenS, blockS])
      | (refine Tri.block_seq ?_)
      | (refine Tri.block_region ?_)
      | (refine Tri.block_cond ?_)
      | ((with_reducible refine CallK.pure (hck) (Wks.refl _) ?_); simp [upd, hc, bne])
      | (refine Tri.exit ?_; simp [upd, hc, bne]; first | (rename ∀ st, Tri _ _ _ st _ → _ => hK; first | (apply hK; clear hK) | (clear hK; rename ∀ st, Tri _ _ _ st _ → _ => hK; first | (apply hK; clear hK) | (clear hK; rename ∀ st, Tri _ _ _ st _ → _ => hK; first | (apply hK; clear hK) | (clear hK; rename ∀ st, Tri _ _ _ st _ → _ => hK; first | (apply hK; clear hK) | (clear hK; rename ∀ st, Tri _ _ _ st _ → _ => hK; first | (apply hK; clear hK) | (clear hK; rename ∀ st, Tri _ _ _ st _ → _ => hK; apply hK; clear hK)))))) | skip)
      | (intro β)
      | (rename ∀ st, Tri _ _ _ st _ → _ => hK; apply hK; clear hK))
    refine Tri.ret ⟨.tup [.agg [.int .i64 0, .sl true 0 none [], .sl true 0 none []], .c (.int .i64 1)], by simp [upd], ?_⟩
    exact .tup2 wZ (.refl _)
  have hc0 : check r = 0 := by simpa using hc
  by_cases g1 : s < 0
  · have e : cut r s = (zrec, 2) := by rw [cut, if_pos hc0, if_pos (.inl g1)]
    rw [e]
    simp only [recC] at hck ⊢
    repeat (first
      | (refine Tri.seq fun K hK => ?_)
      | (refine Tri.region ?_; simp [upd, hc, bne, g1])
      | (refine Tri.draw (by kernel_rfl) (by decide +kernel) ?_; simp [upd, hc, bne, g1])
      | (refine Tri.cond_true ?_ ?_; (focus simp [upd, hc, bne, g1]; done))
      | (refine Tri.cond_false ?_ ?_; (focus simp [upd, hc, bne, g1]; done))
      | (refine Tri.skip ?_; simp only [thenS, blockS])
      | (refine Tri.block_seq ?_)
      | (refine Tri.block_region ?_)
      | (refine Tri.block_cond ?_)
      | ((with_reducible refine CallK.pure (hck) (Wks.refl _) ?_); simp [upd, hc, bne, g1])
      | (refine Tri.exit ?_; simp [upd, hc, bne, g1]; first | (rename ∀ st, Tri _ _ _ st _ → _ => hK; first | (apply hK; clear hK) | (clear hK; rename ∀ st, Tri _ _ _ st _ → _ => hK; first | (apply hK; clear hK) | (clear hK; rename ∀ st, Tri _ _ _ st _ → _ => hK; first | (apply hK; clear hK) | (clear hK; rename ∀ st, Tri _ _ _ st _ → _ => hK; first | (apply hK; clear hK) | (clear hK; rename ∀ st, Tri _ _ _ st _ → _ => hK; first | (apply hK; clear hK) | (clear hK; rename ∀ st, Tri _ _ _ st _ → _ => hK; apply hK; clear hK)))))) | skip)
      | (intro β)
      | (rename ∀ st, Tri _ _ _ st _ → _ => hK; apply hK; clear hK))
    refine Tri.ret ⟨.tup [.agg [.int .i64 0, .sl true 0 none [], .sl true 0 none []], .c (.int .i64 2)], by simp [upd], ?_⟩
    exact .tup2 wZ (.refl _)
  by_cases g2 : r.slots < s
  · have e : cut r s = (zrec, 2) := by rw [cut, if_pos hc0, if_pos (.inr g2)]
    rw [e]
    simp only [recC] at hck ⊢
    repeat (first
      | (refine Tri.seq fun K hK => ?_)
      | (refine Tri.region ?_; simp [upd, hc, bne, g1, g2])
      | (refine Tri.draw (by kernel_rfl) (by decide +kernel) ?_; simp [upd, hc, bne, g1, g2])
      | (refine Tri.cond_true ?_ ?_; (focus simp [upd, hc, bne, g1, g2]; done))
      | (refine Tri.cond_false ?_ ?_; (focus simp [upd, hc, bne, g1, g2]; done))
      | (refine Tri.skip ?_; simp only [thenS, blockS])
      | (refine Tri.block_seq ?_)
      | (refine Tri.block_region ?_)
      | (refine Tri.block_cond ?_)
      | ((with_reducible refine CallK.pure (hck) (Wks.refl _) ?_); simp [upd, hc, bne, g1, g2])
      | (refine Tri.exit ?_; simp [upd, hc, bne, g1, g2]; first | (rename ∀ st, Tri _ _ _ st _ → _ => hK; first | (apply hK; clear hK) | (clear hK; rename ∀ st, Tri _ _ _ st _ → _ => hK; first | (apply hK; clear hK) | (clear hK; rename ∀ st, Tri _ _ _ st _ → _ => hK; first | (apply hK; clear hK) | (clear hK; rename ∀ st, Tri _ _ _ st _ → _ => hK; first | (apply hK; clear hK) | (clear hK; rename ∀ st, Tri _ _ _ st _ → _ => hK; first | (apply hK; clear hK) | (clear hK; rename ∀ st, Tri _ _ _ st _ → _ => hK; apply hK; clear hK)))))) | skip)
      | (intro β)
      | (rename ∀ st, Tri _ _ _ st _ → _ => hK; apply hK; clear hK))
    refine Tri.ret ⟨.tup [.agg [.int .i64 0, .sl true 0 none [], .sl true 0 none []], .c (.int .i64 2)], by simp [upd], ?_⟩
    exact .tup2 wZ (.refl _)
  have e : cut r s = (⟨s, (fA s r.atts).isEmpty, fA s r.atts, (fD s r.dels).isEmpty, fD s r.dels⟩, 0) := by rw [cut, if_pos hc0, if_neg (by omega)]
  rw [e]
  simp only [recC] at hck ⊢
  obtain ⟨hl1, hl2⟩ := check_lens hc0
  repeat (first
    | (refine Tri.seq fun K hK => ?_)
    | (refine Tri.region ?_; simp [upd, hc, bne, g1, g2])
    | (refine Tri.draw (by kernel_rfl) (by decide +kernel) ?_; simp [upd, hc, bne, g1, g2])
    | (refine Tri.cond_true ?_ ?_; (focus simp [upd, hc, bne, g1, g2]; done))
    | (refine Tri.cond_false ?_ ?_; (focus simp [upd, hc, bne, g1, g2]; done))
    | (refine Tri.skip ?_; simp only [thenS, blockS])
    | (refine Tri.block_seq ?_)
    | (refine Tri.block_region ?_)
    | (refine Tri.block_cond ?_)
    | ((with_reducible refine CallK.pure (hck) (Wks.refl _) ?_); simp [upd, hc, bne, g1, g2])
    | (refine Tri.exit ?_; simp [upd, hc, bne, g1, g2]; first | (rename ∀ st, Tri _ _ _ st _ → _ => hK; first | (apply hK; clear hK) | (clear hK; rename ∀ st, Tri _ _ _ st _ → _ => hK; first | (apply hK; clear hK) | (clear hK; rename ∀ st, Tri _ _ _ st _ → _ => hK; first | (apply hK; clear hK) | (clear hK; rename ∀ st, Tri _ _ _ st _ → _ => hK; first | (apply hK; clear hK) | (clear hK; rename ∀ st, Tri _ _ _ st _ → _ => hK; first | (apply hK; clear hK) | (clear hK; rename ∀ st, Tri _ _ _ st _ → _ => hK; apply hK; clear hK)))))) | skip)
    | (intro β)
    | (rename ∀ st, Tri _ _ _ st _ → _ => hK; apply hK; clear hK))
  refine Tri.range 32 31 33 48 71 rfl rfl r.atts.length (XInv1 r s) (by simp) (by omega) ?_ rfl (by simp [upd]) (by simp [upd]) ?_ ?_ ?_
  · rintro k st t v ht ⟨b2, b4, b6, G, h, h30, hG⟩
    refine ⟨b2, b4, b6, G, h.put t v (by omega), ?_, hG.put _ _⟩
    rcases ht with rfl | rfl | rfl <;> simpa [upd] using h30
  · exact ⟨_, _, _, .sl true 0 none [], ⟨rfl, by simp [upd], by simp [upd] <;> exact rfl, by simp [upd] <;> exact rfl, by simp [upd] <;> exact rfl, by simp [upd] <;> exact rfl, by simp [upd] <;> exact rfl, by simp [upd] <;> exact rfl⟩, by simp [upd], .inl ⟨rfl, _, _, rfl⟩⟩
  · rintro k st hk ⟨b2, b4, b6, G, ⟨-, s1, s2, x2, s4, x4, s6, x6⟩, h30, hG⟩ hn h32 h31
    have ht := fA_take s r.atts k hk
    have hle := fA_le s r.atts k
    by_cases hs : r.atts[k].slot < s
    case neg =>
      rw [if_neg hs, List.append_nil] at ht
      repeat (first
        | (refine Tri.seq fun K hK => ?_)
        | (refine Tri.region ?_; simp [upd, hn, s1, s2, x2, s4, x4, s6, x6, h30, h32, h31, hk, hs])
        | (refine Tri.draw (by kernel_rfl) (by decide +kernel) ?_; simp [upd, hn, s1, s2, x2, s4, x4, s6, x6, h30, h32, h31, hk, hs])
        | (refine Tri.cond_true ?_ ?_; (focus simp [upd, hn, s1, s2, x2, s4, x4, s6, x6, h30, h32, h31, hk, hs]; done))
        | (refine Tri.cond_false ?_ ?_; (focus simp [upd, hn, s1, s2, x2, s4, x4, s6, x6, h30, h32, h31, hk, hs]; done))
        | (refine Tri.skip ?_; simp only [thenS, blockS])
        | (refine Tri.block_seq ?_)
        | (refine Tri.block_region ?_)
        | (refine Tri.block_cond ?_)
        | (refine Tri.exit ?_; simp [upd, hn, s1, s2, x2, s4, x4, s6, x6, h30, h32, h31, hk, hs]; first | (rename ∀ st, Tri _ _ _ st _ → _ => hK; first | (apply hK; clear hK) | (clear hK; rename ∀ st, Tri _ _ _ st _ → _ => hK; first | (apply hK; clear hK) | (clear hK; rename ∀ st, Tri _ _ _ st _ → _ => hK; first | (apply hK; clear hK) | (clear hK; rename ∀ st, Tri _ _ _ st _ → _ => hK; first | (apply hK; clear hK) | (clear hK; rename ∀ st, Tri _ _ _ st _ → _ => hK; first | (apply hK; clear hK) | (clear hK; rename ∀ st, Tri _ _ _ st _ → _ => hK; apply hK; clear hK)))))) | skip)
        | (intro β)
        | (rename ∀ st, Tri _ _ _ st _ → _ => hK; apply hK; clear hK))
      try simp [upd, h32, h31]
      exact ⟨b2, b4, b6, G, ⟨rfl, by simpa [upd] using s1, by simpa [upd] using s2, by simpa [upd] using x2, by simpa [upd] using s4, by simpa [upd] using x4, by simpa [upd] using s6, by simp [upd, x6] <;> exact rfl⟩, by simpa [upd] using h30, by simpa [GC, ht] using hG⟩
    rw [if_pos hs] at ht
    generalize fA s (r.atts.take k) = acc at *
    rcases hG with ⟨hnil, k0, own, rfl⟩ | ⟨b, hne, rfl, hrw⟩
    · have hacc : acc = [] := by simpa using hnil
      subst hacc
      repeat (first
        | (refine Tri.seq fun K hK => ?_)
        | (refine Tri.region ?_; simp [upd, hn, s1, s2, x2, s4, x4, s6, x6, h30, h32, h31, hk, hs])
        | (refine Tri.draw (by kernel_rfl) (by decide +kernel) ?_; simp [upd, hn, s1, s2, x2, s4, x4, s6, x6, h30, h32, h31, hk, hs])
        | (refine Tri.cond_true ?_ ?_; (focus simp [upd, hn, s1, s2, x2, s4, x4, s6, x6, h30, h32, h31, hk, hs]; done))
        | (refine Tri.cond_false ?_ ?_; (focus simp [upd, hn, s1, s2, x2, s4, x4, s6, x6, h30, h32, h31, hk, hs]; done))
        | (refine Tri.skip ?_; simp only [thenS, blockS])
        | (refine Tri.block_seq ?_)
        | (refine Tri.block_region ?_)
        | (refine Tri.block_cond ?_)
        | (refine Tri.exit ?_; simp [upd, hn, s1, s2, x2, s4, x4, s6, x6, h30, h32, h31, hk, hs]; first | (rename ∀ st, Tri _ _ _ st _ → _ => hK; first | (apply hK; clear hK) | (clear hK; rename ∀ st, Tri _ _ _ st _ → _ => hK; first | (apply hK; clear hK) | (clear hK; rename ∀ st, Tri _ _ _ st _ → _ => hK; first | (apply hK; clear hK) | (clear hK; rename ∀ st, Tri _ _ _ st _ → _ => hK; first | (apply hK; clear hK) | (clear hK; rename ∀ st, Tri _ _ _ st _ → _ => hK; first | (apply hK; clear hK) | (clear hK; rename ∀ st, Tri _ _ _ st _ → _ => hK; apply hK; clear hK)))))) | skip)
        | (intro β)
        | (rename ∀ st, Tri _ _ _ st _ → _ => hK; apply hK; clear hK))
      try simp [upd, h32, h31]
      exact ⟨b2, b4, b6, .sl false 8 (some (45, β)) ([r.atts[k]].map attC), ⟨rfl, by simpa [upd] using s1, by simpa [upd] using s2, by simpa [upd] using x2, by simpa [upd] using s4, by simpa [upd] using x4, by simpa [upd] using s6, by simp [upd, x6] <;> exact rfl⟩, by simpa [upd] using h30, .inr ⟨β, by simp [ht], by simp [ht], by simp [ht, upd]⟩⟩
    · have hb : (acc.length + 1) * 64 ≤ 140737488355328 := by omega
      rw [List.length_map] at hrw
      repeat (first
        | (refine Tri.seq fun K hK => ?_)
        | (refine Tri.region ?_; simp [upd, hn, s1, s2, x2, s4, x4, s6, x6, h30, h32, h31, hk, hs, hb, hrw])
        | (refine Tri.draw (by kernel_rfl) (by decide +kernel) ?_; simp [upd, hn, s1, s2, x2, s4, x4, s6, x6, h30, h32, h31, hk, hs, hb, hrw])
        | (refine Tri.cond_true ?_ ?_; (focus simp [upd, hn, s1, s2, x2, s4, x4, s6, x6, h30, h32, h31, hk, hs, hb, hrw]; done))
        | (refine Tri.cond_false ?_ ?_; (focus simp [upd, hn, s1, s2, x2, s4, x4, s6, x6, h30, h32, h31, hk, hs, hb, hrw]; done))
        | (refine Tri.skip ?_; simp only [thenS, blockS])
        | (refine Tri.block_seq ?_)
        | (refine Tri.block_region ?_)
        | (refine Tri.block_cond ?_)
        | (refine Tri.exit ?_; simp [upd, hn, s1, s2, x2, s4, x4, s6, x6, h30, h32, h31, hk, hs, hb, hrw]; first | (rename ∀ st, Tri _ _ _ st _ → _ => hK; first | (apply hK; clear hK) | (clear hK; rename ∀ st, Tri _ _ _ st _ → _ => hK; first | (apply hK; clear hK) | (clear hK; rename ∀ st, Tri _ _ _ st _ → _ => hK; first | (apply hK; clear hK) | (clear hK; rename ∀ st, Tri _ _ _ st _ → _ => hK; first | (apply hK; clear hK) | (clear hK; rename ∀ st, Tri _ _ _ st _ → _ => hK; first | (apply hK; clear hK) | (clear hK; rename ∀ st, Tri _ _ _ st _ → _ => hK; apply hK; clear hK)))))) | skip)
        | (intro β)
        | (rename ∀ st, Tri _ _ _ st _ → _ => hK; apply hK; clear hK))
      try simp [upd, h32, h31]
      exact ⟨b2, b4, b6, .sl false 8 (some (45, β)) ((acc ++ [r.atts[k]]).map attC), ⟨rfl, by simpa [upd] using s1, by simpa [upd] using s2, by simpa [upd] using x2, by simpa [upd] using s4, by simpa [upd] using x4, by simpa [upd] using s6, by simp [upd, x6] <;> exact rfl⟩, by simpa [upd] using h30, .inr ⟨β, by simp [ht], by simp [ht], by simp [ht, upd]⟩⟩
  · rintro st ⟨b2, b4, b6, G, ⟨-, s1, s2, x2, s4, x4, s6, x6⟩, h30, hG⟩ hn
    rw [List.take_length] at hG
    apply hK
    repeat (first
      | (refine Tri.seq fun K hK => ?_)
      | (refine Tri.region ?_; simp [upd, hn, s1, s2, x2, s4, x4, s6, x6])
      | (refine Tri.draw (by kernel_rfl) (by decide +kernel) ?_; simp [upd, hn, s1, s2, x2, s4, x4, s6, x6])
      | (refine Tri.cond_true ?_ ?_; (focus simp [upd, hn, s1, s2, x2, s4, x4, s6, x6]; done))
      | (refine Tri.cond_false ?_ ?_; (focus simp [upd, hn, s1, s2, x2, s4, x4, s6, x6]; done))
      | (refine Tri.skip ?_; simp only [thenS, blockS])
      | (refine Tri.block_seq ?_)
      | (refine Tri.block_region ?_)
      | (refine Tri.block_cond ?_)
      | (refine Tri.exit ?_; simp [upd, hn, s1, s2, x2, s4, x4, s6, x6]; first | (rename ∀ st, Tri _ _ _ st _ → _ => hK; first | (apply hK; clear hK) | (clear hK; rename ∀ st, Tri _ _ _ st _ → _ => hK; first | (apply hK; clear hK) | (clear hK; rename ∀ st, Tri _ _ _ st _ → _ => hK; first | (apply hK; clear hK) | (clear hK; rename ∀ st, Tri _ _ _ st _ → _ => hK; first | (apply hK; clear hK) | (clear hK; rename ∀ st, Tri _ _ _ st _ → _ => hK; first | (apply hK; clear hK) | (clear hK; rename ∀ st, Tri _ _ _ st _ → _ => hK; apply hK; clear hK)))))) | skip)
      | (intro β)
      | (rename ∀ st, Tri _ _ _ st _ → _ => hK; apply hK; clear hK))
    refine Tri.range 53 52 54 69 71 rfl rfl r.dels.length (XInv2 r s) (by simp) (by omega) ?_ rfl (by simp [upd]) (by simp [upd]) ?_ ?_ ?_
    · rintro k st t v ht ⟨b2, b4, b6, G, H, h, h51, hG, hH⟩
      refine ⟨b2, b4, b6, G, H, h.put t v (by omega), ?_, hG.put _ _, hH.put _ _⟩
      rcases ht with rfl | rfl | rfl <;> simpa [upd] using h51
    · exact ⟨b2, b4, b6, G, .sl true 0 none [], ⟨rfl, by simpa [upd] using s1, by simpa [upd] using s2, by simpa [upd] using x2, by simpa [upd] using s4, by simpa [upd] using x4, by simpa [upd] using s6, by simp [upd, x6] <;> exact rfl⟩, by simp [upd], by simpa [GC] using hG, .inl ⟨rfl, _, _, rfl⟩⟩
    · rintro k st hk ⟨b2, b4, b6, G, H, ⟨-, s1, s2, x2, s4, x4, s6, x6⟩, h51, hG, hH⟩ hn h53 h52
      have ht := fD_take s r.dels k hk
      have hle := fD_le s r.dels k
      by_cases hs : r.dels[k].slot < s
      case neg =>
        rw [if_neg hs, List.append_nil] at ht
        repeat (first
          | (refine Tri.seq fun K hK => ?_)
          | (refine Tri.region ?_; simp [upd, hn, s1, s2, x2, s4, x4, s6, x6, h51, h53, h52, hk, hs])
          | (refine Tri.draw (by kernel_rfl) (by decide +kernel) ?_; simp [upd, hn, s1, s2, x2, s4, x4, s6, x6, h51, h53, h52, hk, hs])
          | (refine Tri.cond_true ?_ ?_; (focus simp [upd, hn, s1, s2, x2, s4, x4, s6, x6, h51, h53, h52, hk, hs]; done))
          | (refine Tri.cond_false ?_ ?_; (focus simp [upd, hn, s1, s2, x2, s4, x4, s6, x6, h51, h53, h52, hk, hs]; done))
          | (refine Tri.skip ?_; simp only [thenS, blockS])
          | (refine Tri.block_seq ?_)
          | (refine Tri.block_region ?_)
          | (refine Tri.block_cond ?_)
          | (refine Tri.exit ?_; simp [upd, hn, s1, s2, x2, s4, x4, s6, x6, h51, h53, h52, hk, hs]; first | (rename ∀ st, Tri _ _ _ st _ → _ => hK; first | (apply hK; clear hK) | (clear hK; rename ∀ st, Tri _ _ _ st _ → _ => hK; first | (apply hK; clear hK) | (clear hK; rename ∀ st, Tri _ _ _ st _ → _ => hK; first | (apply hK; clear hK) | (clear hK; rename ∀ st, Tri _ _ _ st _ → _ => hK; first | (apply hK; clear hK) | (clear hK; rename ∀ st, Tri _ _ _ st _ → _ => hK; first | (apply hK; clear hK) | (clear hK; rename ∀ st, Tri _ _ _ st _ → _ => hK; apply hK; clear hK)))))) | skip)
          | (intro β)
          | (rename ∀ st, Tri _ _ _ st _ → _ => hK; apply hK; clear hK))
        try simp [upd, h53, h52]
        exact ⟨b2, b4, b6, G, H, ⟨rfl, by simpa [upd] using s1, by simpa [upd] using s2, by simpa [upd] using x2, by simpa [upd] using s4, by simpa [upd] using x4, by simpa [upd] using s6, by simp [upd, x6] <;> exact rfl⟩, by simpa [upd] using h51, by simpa [GC] using hG, by simpa [GC, ht] using hH⟩
      rw [if_pos hs] at ht
      generalize fD s (r.dels.take k) = acc at *
      rcases hH with ⟨hnil, k0, own, rfl⟩ | ⟨b, hne, rfl, hrw⟩
      · have hacc : acc = [] := by simpa using hnil
        subst hacc
        repeat (first
          | (refine Tri.seq fun K hK => ?_)
          | (refine Tri.region ?_; simp [upd, hn, s1, s2, x2, s4, x4, s6, x6, h51, h53, h52, hk, hs])
          | (refine Tri.draw (by kernel_rfl) (by decide +kernel) ?_; simp [upd, hn, s1, s2, x2, s4, x4, s6, x6, h51, h53, h52, hk, hs])
          | (refine Tri.cond_true ?_ ?_; (focus simp [upd, hn, s1, s2, x2, s4, x4, s6, x6, h51, h53, h52, hk, hs]; done))
          | (refine Tri.cond_false ?_ ?_; (focus simp [upd, hn, s1, s2, x2, s4, x4, s6, x6, h51, h53, h52, hk, hs]; done))
          | (refine Tri.skip ?_; simp only [thenS, blockS])
          | (refine Tri.block_seq ?_)
          | (refine Tri.block_region ?_)
          | (refine Tri.block_cond ?_)
          | (refine Tri.exit ?_; simp [upd, hn, s1, s2, x2, s4, x4, s6, x6, h51, h53, h52, hk, hs]; first | (rename ∀ st, Tri _ _ _ st _ → _ => hK; first | (apply hK; clear hK) | (clear hK; rename ∀ st, Tri _ _ _ st _ → _ => hK; first | (apply hK; clear hK) | (clear hK; rename ∀ st, Tri _ _ _ st _ → _ => hK; first | (apply hK; clear hK) | (clear hK; rename ∀ st, Tri _ _ _ st _ → _ => hK; first | (apply hK; clear hK) | (clear hK; rename ∀ st, Tri _ _ _ st _ → _ => hK; first | (apply hK; clear hK) | (clear hK; rename ∀ st, Tri _ _ _ st _ → _ => hK; apply hK; clear hK)))))) | skip)
          | (intro β)
          | (rename ∀ st, Tri _ _ _ st _ → _ => hK; apply hK; clear hK))
        try simp [upd, h53, h52]
        exact ⟨b2, b4, b6, G, .sl false 3 (some (66, β)) ([r.dels[k]].map delC), ⟨rfl, by simpa [upd] using s1, by simpa [upd] using s2, by simpa [upd] using x2, by simpa [upd] using s4, by simpa [upd] using x4, by simpa [upd] using s6, by simp [upd, x6] <;> exact rfl⟩, by simpa [upd] using h51, by simpa [GC, upd] using hG, .inr ⟨β, by simp [ht], by simp [ht], by simp [ht, upd]⟩⟩
      · have hb : (acc.length + 1) * 24 ≤ 140737488355328 := by omega
        rw [List.length_map] at hrw
        repeat (first
          | (refine Tri.seq fun K hK => ?_)
          | (refine Tri.region ?_; simp [upd, hn, s1, s2, x2, s4, x4, s6, x6, h51, h53, h52, hk, hs, hb, hrw])
          | (refine Tri.draw (by kernel_rfl) (by decide +kernel) ?_; simp [upd, hn, s1, s2, x2, s4, x4, s6, x6, h51, h53, h52, hk, hs, hb, hrw])
          | (refine Tri.cond_true ?_ ?_; (focus simp [upd, hn, s1, s2, x2, s4, x4, s6, x6, h51, h53, h52, hk, hs, hb, hrw]; done))
          | (refine Tri.cond_false ?_ ?_; (focus simp [upd, hn, s1, s2, x2, s4, x4, s6, x6, h51, h53, h52, hk, hs, hb, hrw]; done))
          | (refine Tri.skip ?_; simp only [thenS, blockS])
          | (refine Tri.block_seq ?_)
          | (refine Tri.block_region ?_)
          | (refine Tri.block_cond ?_)
          | (refine Tri.exit ?_; simp [upd, hn, s1, s2, x2, s4, x4, s6, x6, h51, h53, h52, hk, hs, hb, hrw]; first | (rename ∀ st, Tri _ _ _ st _ → _ => hK; first | (apply hK; clear hK) | (clear hK; rename ∀ st, Tri _ _ _ st _ → _ => hK; first | (apply hK; clear hK) | (clear hK; rename ∀ st, Tri _ _ _ st _ → _ => hK; first | (apply hK; clear hK) | (clear hK; rename ∀ st, Tri _ _ _ st _ → _ => hK; first | (apply hK; clear hK) | (clear hK; rename ∀ st, Tri _ _ _ st _ → _ => hK; first | (apply hK; clear hK) | (clear hK; rename ∀ st, Tri _ _ _ st _ → _ => hK; apply hK; clear hK)))))) | skip)
          | (intro β)
          | (rename ∀ st, Tri _ _ _ st _ → _ => hK; apply hK; clear hK))
        try simp [upd, h53, h52]
        exact ⟨b2, b4, b6, G, .sl false 3 (some (66, β)) ((acc ++ [r.dels[k]]).map delC), ⟨rfl, by simpa [upd] using s1, by simpa [upd] using s2, by simpa [upd] using x2, by simpa [upd] using s4, by simpa [upd] using x4, by simpa [upd] using s6, by simp [upd, x6] <;> exact rfl⟩, by simpa [upd] using h51, by simpa [GC, upd] using hG, .inr ⟨β, by simp [ht], by simp [ht], by simp [ht, upd]⟩⟩
    · rintro st ⟨b2, b4, b6, G, H, ⟨-, s1, s2, x2, s4, x4, s6, x6⟩, h51, hG, hH⟩ hn
      rw [List.take_length] at hH
      rename ∀ st, Tri _ _ _ st _ → _ => hK
      apply hK
      have wG : Wk (.c G) (.c (.sl (fA s r.atts).isEmpty 8 none ((fA s r.atts).map attC))) := by simpa using GC.wk hG
      have wH : Wk (.c H) (.c (.sl (fD s r.dels).isEmpty 3 none ((fD s r.dels).map delC))) := by simpa using GC.wk hH
      obtain ⟨nl1, n1, o1, es1, rfl⟩ := hG.sl
      obtain ⟨nl2, n2, o2, es2, rfl⟩ := hH.sl
      repeat (first
        | (refine Tri.seq fun K hK => ?_)
        | (refine Tri.region ?_; simp [upd, hn, s1, s2, x2, s4, x4, s6, x6])
        | (refine Tri.draw (by kernel_rfl) (by decide +kernel) ?_; simp [upd, hn, s1, s2, x2, s4, x4, s6, x6])
        | (refine Tri.cond_true ?_ ?_; (focus simp [upd, hn, s1, s2, x2, s4, x4, s6, x6]; done))
        | (refine Tri.cond_false ?_ ?_; (focus simp [upd, hn, s1, s2, x2, s4, x4, s6, x6]; done))
        | (refine Tri.skip ?_; simp only [thenS, blockS])
        | (refine Tri.block_seq ?_)
        | (refine Tri.block_region ?_)
        | (refine Tri.block_cond ?_)
        | (refine Tri.exit ?_; simp [upd, hn, s1, s2, x2, s4, x4, s6, x6]; first | (rename ∀ st, Tri _ _ _ st _ → _ => hK; first | (apply hK; clear hK) | (clear hK; rename ∀ st, Tri _ _ _ st _ → _ => hK; first | (apply hK; clear hK) | (clear hK; rename ∀ st, Tri _ _ _ st _ → _ => hK; first | (apply hK; clear hK) | (clear hK; rename ∀ st, Tri _ _ _ st _ → _ => hK; first | (apply hK; clear hK) | (clear hK; rename ∀ st, Tri _ _ _ st _ → _ => hK; first | (apply hK; clear hK) | (clear hK; rename ∀ st, Tri _ _ _ st _ → _ => hK; apply hK; clear hK)))))) | skip)
        | (intro β)
        | (rename ∀ st, Tri _ _ _ st _ → _ => hK; apply hK; clear hK))
      refine Tri.ret ⟨.tup [.agg [.int .i64 s, .sl nl1 n1 o1 es1, .sl nl2 n2 o2 es2], .c (.int .i64 0)], by simp [upd, s4], ?_⟩
      exact .tup2 (.agg3 (.refl _) wG wH) (.refl _)
end Go.Proofs.Ytngbpmiikpjiaaa
end
section
open Go Go.Vm
namespace Go.Proofs.Ytngbpmiikpjiaaa
set_option maxRecDepth 100000
theorem attOk_lt {a : Att} {s t : Int} (h : attOk a s = true) (h1 : a.slot < t) : attOk a t = true := by
  unfold attOk at h ⊢
  simp only [Bool.and_eq_true] at h ⊢
  refine ⟨?_, h.2⟩
  have := h.1
  simp only [belowB, decide_eq_true_eq] at this ⊢
  omega
/-- Whether a record is in order does not hang on what is nil. -/
theorem InOrder.congr {a b : Rec} (h : InOrder a) (h1 : b.slots = a.slots) (h2 : b.atts = a.atts) (h3 : b.dels = a.dels) : InOrder b := by
  obtain ⟨x1, x2, x3, x4, x5, x6⟩ := h
  exact ⟨by rw [h1]; exact x1, by rw [h1]; exact x2, by rw [h2]; exact x3, by rw [h3]; exact x4, by rw [h1, h2]; exact x5, by rw [h1, h3]; exact x6⟩
theorem InOrder.cutOf {r : Rec} (h : InOrder r) {s : Int} (h0 : 0 ≤ s) (h1 : s ≤ r.slots) (an dn : Bool) : InOrder ⟨s, an, fA s r.atts, dn, fD s r.dels⟩ where
  s0 := h0
  s1 := Int.le_trans h1 h.s1
  al := Nat.le_trans (List.length_filter_le ..) h.al
  dl := Nat.le_trans (List.length_filter_le ..) h.dl
  atts := ⟨fun a ha => by
    obtain ⟨g1, g2⟩ := List.mem_filter.1 ha
    exact attOk_lt (h.atts.1 a g1) (by simpa using g2), h.atts.2.sublist List.filter_sublist⟩
  dels := ⟨fun d hd => by
    obtain ⟨g1, g2⟩ := List.mem_filter.1 hd
    obtain ⟨a1, a2, a3, a4, a5, a6⟩ := h.dels.1 d g1
    exact ⟨a1, a2, a3, a4, a5, by simpa using g2⟩, h.dels.2.sublist List.filter_sublist⟩
end Go.Proofs.Ytngbpmiikpjiaaa
end
section
open Go Go.Vm
namespace Go.Proofs.Ytngbpmiikpjiaaa
/-- What holds of a service after k frames. -/
structure SvOk (f : Flo) (late k : Int) (x : Svc) : Prop where
  la : x.late = late
  l0 : 0 ≤ x.least
  lm : x.least ≤ x.most
  md : x.most ≤ f.dea
  mz : 0 < x.most ↔ late < k
  ll : 0 < x.least ↔ 0 < x.most
theorem svok_step {f : Flo} {d : List Del} {k : Nat} {x : Svc} {late : Int} (h : SvOk f late k x) (hl : late ≤ k) (hd : 1 ≤ f.dea) : SvOk f (late + (late1 f d k).length) (k + 1 : Nat) (svF f d x k) := by
  obtain ⟨la, l0, lm, md, mz, ll⟩ := h
  have hin := arrI_in (f := f) (k := k) (l := slotsOf f.id k d)
  unfold svF late1
  cases hb : (arrI f k (slotsOf f.id k d)).2
  · rw [if_neg (by simp), if_neg (by simp)]
    exact ⟨by simp [la], l0, lm, md, by simp; omega, ll⟩
  · have hin := hin hb
    rw [if_pos rfl, if_pos rfl]
    unfold relI at hin
    generalize hx : (arrI f k (slotsOf f.id k d)).1 - f.pha - k * f.per + 1 = n
    have h1 : 1 ≤ n := by omega
    have h2 : n ≤ f.dea := by omega
    clear hin hx
    unfold svL
    have e0 : (([] : List Lat).length : Int) = 0 := rfl
    by_cases q1 : x.most < n <;> by_cases q2 : x.least = 0 <;> by_cases q3 : n < x.least <;> simp only [q1, q2, q3, if_true, if_false]
    all_goals (refine ⟨by simp [la], ?_, ?_, ?_, ?_, ?_⟩ <;> simp only [e0] <;> omega)
theorem svok_all (f : Flo) (d : List Del) (x : Svc) (hx : x.late = 0 ∧ x.least = 0 ∧ x.most = 0) (hd : 1 ≤ f.dea) : ∀ k : Nat, SvOk f (((List.range k).flatMap (late1 f d)).length : Int) k ((List.range k).foldl (svF f d) x)
  | 0 => by
    obtain ⟨h1, h2, h3⟩ := hx
    exact ⟨by simp [h1], by simp [h2], by simp [h2, h3], by simp [h3]; omega, by simp [h3], by simp [h2, h3]⟩
  | k + 1 => by
    have ih := svok_all f d x hx hd k
    have hl := flatMap_le (late1 f d) 1 (List.range k) (fun x _ => late1_len f d x)
    rw [List.length_range] at hl
    have := svok_step (d := d) (k := k) ih (by omega) hd
    rw [range_succ_foldl]
    have e : (((List.range (k + 1)).flatMap (late1 f d)).length : Int) = (((List.range k).flatMap (late1 f d)).length : Int) + ((late1 f d k).length : Int) := by
      rw [List.range_succ, List.flatMap_append, List.length_append]; simp
    rw [e]
    exact this
theorem svA_keep (id : Int) : ∀ (l : List Att) (x : Svc), (l.foldl (svA id) x).frames = x.frames ∧ (l.foldl (svA id) x).late = x.late ∧ (l.foldl (svA id) x).least = x.least ∧ (l.foldl (svA id) x).most = x.most ∧ (x.lost ≤ x.att → (l.foldl (svA id) x).lost ≤ (l.foldl (svA id) x).att)
  | [], x => by simp
  | a :: l, x => by
    rw [List.foldl_cons]
    obtain ⟨h1, h2, h3, h4, h5⟩ := svA_keep id l (svA id x a)
    have e : (svA id x a).frames = x.frames ∧ (svA id x a).late = x.late ∧ (svA id x a).least = x.least ∧ (svA id x a).most = x.most ∧ (x.lost ≤ x.att → (svA id x a).lost ≤ (svA id x a).att) := by
      unfold svA
      split
      · refine ⟨rfl, rfl, rfl, rfl, fun h => ?_⟩
        simp only
        split <;> omega
      · exact ⟨rfl, rfl, rfl, rfl, fun h => h⟩
    obtain ⟨e1, e2, e3, e4, e5⟩ := e
    exact ⟨h1.trans e1, h2.trans e2, h3.trans e3, h4.trans e4, fun h => h5 (e5 h)⟩
/-- What MonitorCounts asks of a flow. -/
theorem serve2_ok (f : Flo) (r : Rec) (hf : fault 32 f = 0) (h0 : 0 ≤ r.slots) (h1 : r.slots ≤ 4096) :
    (serve2 f.id f r).late = (lateF f r).length ∧ (serve2 f.id f r).late ≤ (serve2 f.id f r).frames ∧ (serve2 f.id f r).lost ≤ (serve2 f.id f r).att ∧ (serve2 f.id f r).least ≤ (serve2 f.id f r).most ∧
    (serve2 f.id f r).most ≤ f.dea ∧ (0 < (serve2 f.id f r).most ↔ (serve2 f.id f r).late < (serve2 f.id f r).frames) ∧ (0 < (serve2 f.id f r).least ↔ 0 < (serve2 f.id f r).most) := by
  have hp := fault_ok hf
  have hcb := comp_b hf h0 h1
  obtain ⟨k1, k2, k3, k4, k5⟩ := svA_keep f.id r.atts (serve1 f r)
  change (serve2 f.id f r).frames = _ at k1
  change (serve2 f.id f r).late = _ at k2
  change (serve2 f.id f r).least = _ at k3
  change (serve2 f.id f r).most = _ at k4
  change _ → (serve2 f.id f r).lost ≤ (serve2 f.id f r).att at k5
  have hs := svok_all f r.dels { svZ with frames := compI f r.slots } ⟨rfl, rfl, rfl⟩ hp.d1 (compI f r.slots).toNat
  change SvOk f ((lateF f r).length : Int) _ (serve1 f r) at hs
  obtain ⟨q1, q2, q3, -, -⟩ := sv_fr f r.dels { svZ with frames := compI f r.slots } (compI f r.slots).toNat
  change (serve1 f r).frames = compI f r.slots at q1
  change (serve1 f r).att = 0 at q2
  change (serve1 f r).lost = 0 at q3
  have hl := lateF_len f r hf h0 h1
  have hl2 := flatMap_le (late1 f r.dels) 1 (List.range (compI f r.slots).toNat) (fun x _ => late1_len f r.dels x)
  change (lateF f r).length ≤ _ at hl2
  rw [List.length_range] at hl2
  obtain ⟨la, l0, lm, md, mz, ll⟩ := hs
  rw [k1, k2, k3, k4]
  refine ⟨la, by omega, k5 (by omega), lm, md, ?_, ll⟩
  rw [mz, la, q1]
  omega
/-- How many late frames a flow has. -/
def cntF (id : Int) (l : List Lat) : Nat := (l.filter fun x => x.f == id).length
theorem late1_f (f : Flo) (d : List Del) (k : Nat) : ∀ x ∈ late1 f d k, x.f = f.id := by
  unfold late1
  split
  · intro x hx; cases hx
  · intro x hx
    rw [List.mem_singleton] at hx
    rw [hx]
theorem lateF_f (f : Flo) (r : Rec) : ∀ x ∈ lateF f r, x.f = f.id := by
  intro x hx
  obtain ⟨k, _, hk⟩ := List.mem_flatMap.1 hx
  exact late1_f f r.dels k x hk
theorem cntF_lateF (id : Int) (f : Flo) (r : Rec) : cntF id (lateF f r) = if f.id = id then (lateF f r).length else 0 := by
  unfold cntF
  split
  · rename_i h
    rw [List.filter_eq_self.2 fun x hx => by simpa [h] using lateF_f f r x hx]
  · rename_i h
    rw [List.filter_eq_nil_iff.2 fun x hx => by simp [lateF_f f r x hx, h]]
    rfl
theorem cntF_lates (r : Rec) (id : Int) : ∀ (l : List Flo) (n : Nat), (∀ f ∈ l, f.id ≠ id) → cntF id (lates l r) = 0
  | [], _, _ => rfl
  | f :: l, n, h => by
    have h1 := cntF_lates r id l n fun g hg => h g (List.mem_cons_of_mem _ hg)
    have h2 := cntF_lateF id f r
    rw [if_neg (h f (List.mem_cons_self ..))] at h2
    unfold cntF lates at *
    rw [List.flatMap_cons, List.filter_append, List.length_append]
    omega
theorem cntF_at (r : Rec) (l : List Flo) (hd : ∀ i j (_ : i < l.length) (_ : j < l.length), i < j → l[i].id < l[j].id) (k : Nat) (hk : k < l.length) : cntF l[k].id (lates l r) = (lateF l[k] r).length := by
  have e : l = l.take k ++ l[k] :: l.drop (k + 1) := by
    rw [← List.drop_eq_getElem_cons hk, List.take_append_drop]
  have h1 := cntF_lates r l[k].id (l.take k) 0 fun f hf => by
    obtain ⟨i, hi, rfl⟩ := List.getElem_of_mem hf
    rw [List.length_take] at hi
    rw [List.getElem_take]
    have := hd i k (by omega) hk (by omega)
    omega
  have h2 := cntF_lates r l[k].id (l.drop (k + 1)) 0 fun f hf => by
    obtain ⟨i, hi, rfl⟩ := List.getElem_of_mem hf
    rw [List.length_drop] at hi
    rw [List.getElem_drop]
    have := hd k (k + 1 + i) hk (by omega) (by omega)
    omega
  have h3 := cntF_lateF l[k].id l[k] r
  rw [if_pos rfl] at h3
  generalize l[k] = f at *
  unfold cntF lates at *
  rw [e, List.flatMap_append, List.flatMap_cons, List.filter_append, List.filter_append, List.length_append, List.length_append]
  omega
theorem find_at (l : List Flo) (hd : ∀ i j (_ : i < l.length) (_ : j < l.length), i < j → l[i].id < l[j].id) (k : Nat) (hk : k < l.length) : l.find? (fun f => f.id == l[k].id) = some l[k] ∧ findI l[k].id l = (k : Int) := by
  rcases find_cases l l[k].id with ⟨h1, h2⟩ | ⟨i, hi, h1, h2⟩
  · have := List.find?_eq_none.1 h2 l[k] (List.getElem_mem hk)
    simp at this
  · have h3 := List.find?_some h2
    simp only [beq_iff_eq] at h3
    have : i = k := by
      rcases Nat.lt_trichotomy i k with h | h | h
      · have := hd i k hi hk h; omega
      · exact h
      · have := hd k i hk hi h; omega
    subst this
    exact ⟨h2, h1⟩
end Go.Proofs.Ytngbpmiikpjiaaa
end
section
open Go Go.Vm
namespace Go.Proofs.Ytngbpmiikpjiaaa
/-- Deliveries in order, up to a slot: those ahead of it come first. -/
theorem delI_cut (f n a b s : Int) : ∀ (l : List Del), l.Pairwise ltD → (∀ d ∈ l, 0 ≤ d.slot) →
    (b < s → delI f n a b (fD s l) = delI f n a b l) ∧ (delI f n a b (fD s l) ≠ -1 → delI f n a b (fD s l) = delI f n a b l)
  | [], _, _ => ⟨fun _ => rfl, fun _ => rfl⟩
  | d :: r, hp, h0 => by
    have hp' := List.pairwise_cons.1 hp
    obtain ⟨i1, i2⟩ := delI_cut f n a b s r hp'.2 (fun x hx => h0 x (List.mem_cons_of_mem _ hx))
    unfold fD at i1 i2 ⊢
    by_cases hs : d.slot < s
    · rw [List.filter_cons, if_pos (by simpa using hs), delI, delI]
      by_cases hc : d.flow = f ∧ d.frame = n ∧ a ≤ d.slot ∧ d.slot ≤ b
      · rw [if_pos hc, if_pos hc]; exact ⟨fun _ => rfl, fun _ => rfl⟩
      · rw [if_neg hc, if_neg hc]; exact ⟨i1, i2⟩
    · have hnil : r.filter (fun d => decide (d.slot < s)) = [] := by
        rw [List.filter_eq_nil_iff]
        intro x hx
        have := hp'.1 x hx
        unfold ltD at this
        simp; omega
      rw [List.filter_cons, if_neg (by simpa using hs), hnil]
      rw [hnil] at i1
      refine ⟨fun hb => ?_, fun h => absurd rfl h⟩
      have e : delI f n a b (d :: r) = delI f n a b r := by rw [delI, if_neg (by omega)]
      rw [e]
      exact i1 hb
theorem delI_lo (f n a b : Int) : ∀ (l : List Del), (∀ d ∈ l, 0 ≤ d.slot) → delI f n a b l = -1 ∨ (0 ≤ delI f n a b l ∧ a ≤ delI f n a b l ∧ delI f n a b l ≤ b)
  | [], _ => .inl rfl
  | d :: r, h => by
    rw [delI]
    split
    · rename_i hc
      exact .inr ⟨h d (List.mem_cons_self ..), hc.2.2.1, hc.2.2.2⟩
    · exact delI_lo f n a b r fun x hx => h x (List.mem_cons_of_mem _ hx)
/-- What is late in the beginning is late in the whole. -/
theorem late1_cut (f : Flo) (s : Int) (l : List Del) (hp : l.Pairwise ltD) (h0 : ∀ d ∈ l, 0 ≤ d.slot) (k : Nat) (hk : relI f k + f.dea ≤ s) (x : Lat) (hx : x ∈ late1 f (fD s l) k) :
    x.f = f.id ∧ x.n = (k : Int) ∧ ∃ y, late1 f l k = [y] ∧ y.f = x.f ∧ y.n = x.n ∧ (x.s ≠ -1 → y = x) ∧ (relI f k + f.per - 1 < s → y = x) := by
  have h0' : ∀ d ∈ fD s l, 0 ≤ d.slot := fun d hd => h0 d (List.mem_filter.1 hd).1
  rw [late1_R f _ h0'] at hx
  rw [late1_R f _ h0]
  unfold lateR1 at hx ⊢
  have c1 := (delI_cut f.id k (relI f k) (relI f k + f.dea - 1) s l hp h0).1 (by omega)
  rw [c1] at hx
  split at hx
  · rename_i hq
    rw [List.mem_singleton] at hx
    subst hx
    rw [if_pos hq]
    obtain ⟨d1, d2⟩ := delI_cut f.id k (relI f k + f.dea) (relI f k + f.per - 1) s l hp h0
    refine ⟨rfl, rfl, _, rfl, rfl, rfl, fun h => ?_, fun h => ?_⟩
    · rw [d2 h]
    · rw [d1 h]
  · cases hx
theorem comp_mono {f : Flo} {s s' : Int} (h : FloP 32 f) (hs : s ≤ s') (k : Nat) (hk : k < (compI f s).toNat) : k < (compI f s').toNat := by
  have h1 := (comp_iff (s := s) h k).2 (by omega)
  have h2 := (comp_iff (s := s') h k).1 (by omega)
  omega
theorem mem_lates {l : List Flo} {r : Rec} {x : Lat} : x ∈ lates l r ↔ ∃ f ∈ l, ∃ k, k < (compI f r.slots).toNat ∧ x ∈ late1 f r.dels k := by
  unfold lates lateF
  simp only [List.mem_flatMap, List.mem_range]
/-- Late frames have names of their own. -/
theorem lates_inj {l : List Flo} {r : Rec} (hd : ∀ i j (_ : i < l.length) (_ : j < l.length), i < j → l[i].id < l[j].id) {x y : Lat} (hx : x ∈ lates l r) (hy : y ∈ lates l r) (h1 : x.f = y.f) (h2 : x.n = y.n) : x = y := by
  obtain ⟨f, hf, k, hk, hxk⟩ := mem_lates.1 hx
  obtain ⟨g, hg, j, hj, hyj⟩ := mem_lates.1 hy
  have e1 := late1_f f _ k x hxk
  have e2 := late1_f g _ j y hyj
  obtain ⟨a, ha, rfl⟩ := List.getElem_of_mem hf
  obtain ⟨b, hb, rfl⟩ := List.getElem_of_mem hg
  have hab : a = b := by
    rcases Nat.lt_trichotomy a b with h | h | h
    · have := hd a b ha hb h; omega
    · exact h
    · have := hd b a hb ha h; omega
  subst hab
  unfold late1 at hxk hyj
  split at hxk
  · cases hxk
  · rw [List.mem_singleton] at hxk
    split at hyj
    · cases hyj
    · rw [List.mem_singleton] at hyj
      rw [hxk, hyj] at h2
      simp only at h2
      have : k = j := by omega
      subst this
      rw [hxk, hyj]
end Go.Proofs.Ytngbpmiikpjiaaa
end
section
open Go Go.Vm
namespace Go.Proofs.Ytngbpmiikpjiaaa
set_option maxRecDepth 100000
set_option maxHeartbeats 8000000
set_option linter.unusedSimpArgs false
attribute [-simp] isObj C.isO
attribute [local irreducible] Tri Does DoesB DoesR Rounds check fault flowsE arr slotsOf inB findI compI serveN serveE lateN lateE relI
theorem indexL (f : FuncId) (p : Lat → Bool) (b : Nat) (cs : List C) (h : ∀ x, DoesB Try.prog f [.agg (latC x), .c (.box 100 b 0)] [(100, b, cs)] [] (fun _ => (.c (.bool (p x)), [(100, b, cs)], []))) (l : List Lat) (nl : Bool) (hl : l.length ≤ 1073741824) :
    DoesB Try.prog 34 [.c (.sl nl 3 none (l.map latC)), .c (.fn f [.box 100 b 0])] [(100, b, cs)] [] (fun _ => (.c (.int .i64 (idxI p l)), [(100, b, cs)], [])) := by
  refine DoesB.of_body Try.func34 rfl (by kernel_rfl) rfl rfl (by simp) (fun _ => rfl) fun E => ?_
  repeat (first
    | (refine Tri.seq fun K hK => ?_)
    | (refine Tri.region ?_; simp [upd])
    | (refine Tri.draw (by kernel_rfl) (by decide +kernel) ?_; simp [upd])
    | (refine Tri.cond_true ?_ ?_; (focus simp [upd]; done))
    | (refine Tri.cond_false ?_ ?_; (focus simp [upd]; done))
    | (refine Tri.skip ?_; simp only [thenS, blockS])
    | (refine Tri.block_seq ?_)
    | (refine Tri.block_region ?_)
    | (refine Tri.block_cond ?_)
    | (refine Tri.exit ?_; simp [upd]; first | (rename ∀ st, Tri _ _ _ st _ → _ => hK; first | (apply hK; clear hK) | (clear hK; rename ∀ st, Tri _ _ _ st _ → _ => hK; first | (apply hK; clear hK) | (clear hK; rename ∀ st, Tri _ _ _ st _ → _ => hK; first | (apply hK; clear hK) | (clear hK; rename ∀ st, Tri _ _ _ st _ → _ => hK; first | (apply hK; clear hK) | (clear hK; rename ∀ st, Tri _ _ _ st _ → _ => hK; first | (apply hK; clear hK) | (clear hK; rename ∀ st, Tri _ _ _ st _ → _ => hK; apply hK; clear hK)))))) | skip)
    | (intro β)
    | (rename ∀ st, Tri _ _ _ st _ → _ => hK; apply hK; clear hK))
  refine Tri.range 8 7 9 18 19 rfl rfl l.length (fun k st => st.sl 0 = .c (.sl nl 3 none (l.map latC)) ∧ st.sl 1 = .c (.fn f [.box 100 b 0]) ∧ st.bx 100 = some (b, cs) ∧ ∀ j (_ : j < l.length), j < k → p l[j] = false) (by simp) (by omega) ?_ rfl (by simp [upd]) (by simp [upd]) ?_ ?_ ?_
  · rintro k st t v ht ⟨a0, a1, a2, hb⟩
    rcases ht with rfl | rfl | rfl <;> exact ⟨by simpa [upd] using a0, by simpa [upd] using a1, by simpa using a2, hb⟩
  · exact ⟨by simp [upd], by simp [upd], by simp, fun j _ h => by omega⟩
  · rintro k st hk ⟨a0, a1, a2, hb⟩ hn h8 h7
    have g := h l[k]
    cases hp : p l[k]
    case true =>
      rw [idxI_at hk hp hb]
      rw [hp] at g
      repeat (first
        | (refine Tri.seq fun K hK => ?_)
        | (refine Tri.region ?_; simp [upd, hn, a0, a1, a2, h8, h7, hk])
        | (refine Tri.draw (by kernel_rfl) (by decide +kernel) ?_; simp [upd, hn, a0, a1, a2, h8, h7, hk])
        | (refine Tri.cond_true ?_ ?_; (focus simp [upd, hn, a0, a1, a2, h8, h7, hk]; done))
        | (refine Tri.cond_false ?_ ?_; (focus simp [upd, hn, a0, a1, a2, h8, h7, hk]; done))
        | (refine Tri.skip ?_; simp only [thenS, blockS])
        | (refine Tri.block_seq ?_)
        | (refine Tri.block_region ?_)
        | (refine Tri.block_cond ?_)
        | (refine CallK.look 100 g (Wks.refl _) ?_ ?_; (focus (simp [upd, a2]; done)); simp [upd, hn, a0, a1, a2, h8, h7, hk])
        | (refine Tri.exit ?_; simp [upd, hn, a0, a1, a2, h8, h7, hk]; first | (rename ∀ st, Tri _ _ _ st _ → _ => hK; first | (apply hK; clear hK) | (clear hK; rename ∀ st, Tri _ _ _ st _ → _ => hK; first | (apply hK; clear hK) | (clear hK; rename ∀ st, Tri _ _ _ st _ → _ => hK; first | (apply hK; clear hK) | (clear hK; rename ∀ st, Tri _ _ _ st _ → _ => hK; first | (apply hK; clear hK) | (clear hK; rename ∀ st, Tri _ _ _ st _ → _ => hK; first | (apply hK; clear hK) | (clear hK; rename ∀ st, Tri _ _ _ st _ → _ => hK; apply hK; clear hK)))))) | skip)
        | (intro β)
        | (rename ∀ st, Tri _ _ _ st _ → _ => hK; apply hK; clear hK))
      refine Tri.ret ⟨_, 0, [], rfl, ?_, ?_, trivial, by simp⟩
      · simp [upd]
        exact Wk.refl _
      · simp [upd, a2]
    rw [hp] at g
    repeat (first
      | (refine Tri.seq fun K hK => ?_)
      | (refine Tri.region ?_; simp [upd, hn, a0, a1, a2, h8, h7, hk])
      | (refine Tri.draw (by kernel_rfl) (by decide +kernel) ?_; simp [upd, hn, a0, a1, a2, h8, h7, hk])
      | (refine Tri.cond_true ?_ ?_; (focus simp [upd, hn, a0, a1, a2, h8, h7, hk]; done))
      | (refine Tri.cond_false ?_ ?_; (focus simp [upd, hn, a0, a1, a2, h8, h7, hk]; done))
      | (refine Tri.skip ?_; simp only [thenS, blockS])
      | (refine Tri.block_seq ?_)
      | (refine Tri.block_region ?_)
      | (refine Tri.block_cond ?_)
      | (refine CallK.look 100 g (Wks.refl _) ?_ ?_; (focus (simp [upd, a2]; done)); simp [upd, hn, a0, a1, a2, h8, h7, hk])
      | (refine Tri.exit ?_; simp [upd, hn, a0, a1, a2, h8, h7, hk]; first | (rename ∀ st, Tri _ _ _ st _ → _ => hK; first | (apply hK; clear hK) | (clear hK; rename ∀ st, Tri _ _ _ st _ → _ => hK; first | (apply hK; clear hK) | (clear hK; rename ∀ st, Tri _ _ _ st _ → _ => hK; first | (apply hK; clear hK) | (clear hK; rename ∀ st, Tri _ _ _ st _ → _ => hK; first | (apply hK; clear hK) | (clear hK; rename ∀ st, Tri _ _ _ st _ → _ => hK; first | (apply hK; clear hK) | (clear hK; rename ∀ st, Tri _ _ _ st _ → _ => hK; apply hK; clear hK)))))) | skip)
      | (intro β)
      | (rename ∀ st, Tri _ _ _ st _ → _ => hK; apply hK; clear hK))
    try simp [upd, h8, h7, a0, a1, a2]
    intro j hj hjk
    rcases Nat.lt_succ_iff_lt_or_eq.1 hjk with h' | rfl
    · exact hb j hj h'
    · exact hp
  · rintro st ⟨a0, a1, a2, hb⟩ hn
    rename ∀ st, Tri _ _ _ st _ → _ => hK
    apply hK
    rw [idxI_none (p := p) (l := l) fun j hj => hb j hj hj]
    repeat (first
      | (refine Tri.seq fun K hK => ?_)
      | (refine Tri.region ?_; simp [upd, hn, a2])
      | (refine Tri.draw (by kernel_rfl) (by decide +kernel) ?_; simp [upd, hn, a2])
      | (refine Tri.cond_true ?_ ?_; (focus simp [upd, hn, a2]; done))
      | (refine Tri.cond_false ?_ ?_; (focus simp [upd, hn, a2]; done))
      | (refine Tri.skip ?_; simp only [thenS, blockS])
      | (refine Tri.block_seq ?_)
      | (refine Tri.block_region ?_)
      | (refine Tri.block_cond ?_)
      | (refine Tri.exit ?_; simp [upd, hn, a2]; first | (rename ∀ st, Tri _ _ _ st _ → _ => hK; first | (apply hK; clear hK) | (clear hK; rename ∀ st, Tri _ _ _ st _ → _ => hK; first | (apply hK; clear hK) | (clear hK; rename ∀ st, Tri _ _ _ st _ → _ => hK; first | (apply hK; clear hK) | (clear hK; rename ∀ st, Tri _ _ _ st _ → _ => hK; first | (apply hK; clear hK) | (clear hK; rename ∀ st, Tri _ _ _ st _ → _ => hK; first | (apply hK; clear hK) | (clear hK; rename ∀ st, Tri _ _ _ st _ → _ => hK; apply hK; clear hK)))))) | skip)
      | (intro β)
      | (rename ∀ st, Tri _ _ _ st _ → _ => hK; apply hK; clear hK))
    refine Tri.ret ⟨_, 0, [], rfl, ?_, ?_, trivial, by simp⟩
    · simp [upd]
      exact Wk.refl _
    · simp [upd, a2]
def sameL (x y : Lat) : Bool := y.f == x.f && y.n == x.n
theorem cloL (x y : Lat) (b : Nat) : DoesB Try.prog 35 [.agg (latC y), .c (.box 100 b 0)] [(100, b, latC x)] [] (fun _ => (.c (.bool (sameL x y)), [(100, b, latC x)], [])) := by
  refine DoesB.of_body Try.func35 rfl (by kernel_rfl) rfl rfl (by simp) (fun _ => rfl) fun E => ?_
  unfold sameL
  cases g : (y.f == x.f)
  · repeat (first
      | (refine Tri.seq fun K hK => ?_)
      | (refine Tri.region ?_; simp [upd, g])
      | (refine Tri.draw (by kernel_rfl) (by decide +kernel) ?_; simp [upd, g])
      | (refine Tri.cond_true ?_ ?_; (focus simp [upd, g]; done))
      | (refine Tri.cond_false ?_ ?_; (focus simp [upd, g]; done))
      | (refine Tri.skip ?_; simp only [thenS, blockS])
      | (refine Tri.block_seq ?_)
      | (refine Tri.block_region ?_)
      | (refine Tri.block_cond ?_)
      | (refine Tri.exit ?_; simp [upd, g]; first | (rename ∀ st, Tri _ _ _ st _ → _ => hK; first | (apply hK; clear hK) | (clear hK; rename ∀ st, Tri _ _ _ st _ → _ => hK; first | (apply hK; clear hK) | (clear hK; rename ∀ st, Tri _ _ _ st _ → _ => hK; first | (apply hK; clear hK) | (clear hK; rename ∀ st, Tri _ _ _ st _ → _ => hK; first | (apply hK; clear hK) | (clear hK; rename ∀ st, Tri _ _ _ st _ → _ => hK; first | (apply hK; clear hK) | (clear hK; rename ∀ st, Tri _ _ _ st _ → _ => hK; apply hK; clear hK)))))) | skip)
      | (intro β)
      | (rename ∀ st, Tri _ _ _ st _ → _ => hK; apply hK; clear hK))
    refine Tri.ret ⟨_, 0, [], rfl, ?_, ?_, trivial, by simp⟩
    · simp [upd]
      exact Wk.refl _
    · simp [upd]
  · repeat (first
      | (refine Tri.seq fun K hK => ?_)
      | (refine Tri.region ?_; simp [upd, g])
      | (refine Tri.draw (by kernel_rfl) (by decide +kernel) ?_; simp [upd, g])
      | (refine Tri.cond_true ?_ ?_; (focus simp [upd, g]; done))
      | (refine Tri.cond_false ?_ ?_; (focus simp [upd, g]; done))
      | (refine Tri.skip ?_; simp only [thenS, blockS])
      | (refine Tri.block_seq ?_)
      | (refine Tri.block_region ?_)
      | (refine Tri.block_cond ?_)
      | (refine Tri.exit ?_; simp [upd, g]; first | (rename ∀ st, Tri _ _ _ st _ → _ => hK; first | (apply hK; clear hK) | (clear hK; rename ∀ st, Tri _ _ _ st _ → _ => hK; first | (apply hK; clear hK) | (clear hK; rename ∀ st, Tri _ _ _ st _ → _ => hK; first | (apply hK; clear hK) | (clear hK; rename ∀ st, Tri _ _ _ st _ → _ => hK; first | (apply hK; clear hK) | (clear hK; rename ∀ st, Tri _ _ _ st _ → _ => hK; first | (apply hK; clear hK) | (clear hK; rename ∀ st, Tri _ _ _ st _ → _ => hK; apply hK; clear hK)))))) | skip)
      | (intro β)
      | (rename ∀ st, Tri _ _ _ st _ → _ => hK; apply hK; clear hK))
    refine Tri.ret ⟨_, 0, [], rfl, ?_, ?_, trivial, by simp⟩
    · simp [upd]
      exact Wk.refl _
    · simp [upd]
def GI (l : List Flo) (nl : Bool) (s : Int) (a b : List Lat) (na nb : Bool) (k : Nat) (st : St) : Prop := st.n = 109 ∧ st.sl 0 = .c (.sl nl 6 none (l.map floC)) ∧ st.sl 2 = .c (.int .i64 s) ∧ st.sl 54 = .c (.sl na 3 none (a.map latC)) ∧ st.sl 11 = .c (.sl nb 3 none (b.map latC))
theorem monitorGrows_does (l : List Flo) (nl : Bool) (r : Rec) (s : Int) (hnl : nl = true → l = []) (ha : r.an = true → r.atts = []) (hd : r.dn = true → r.dels = []) : Does Try.prog 8 [.c (.sl nl 6 none (l.map floC)), .agg (recC r), .c (.int .i64 s)] (.c (.bool true)) := by
  refine Does.of_body Try.func8 rfl (by kernel_rfl) rfl rfl (by simp) ?_
  intro E
  have h0 := awake_does
  have h1 := few56_does l nl r
  have h4 := cut_does r s
  have h5 := late_does l nl r
  simp only [recC] at h1 h4 h5 ⊢
  cases g : (decide (l.length ≤ 20) && (decide (r.atts.length ≤ 150) && decide (r.dels.length ≤ 100)))
  · rw [g] at h1
    repeat (first
      | (refine Tri.seq fun K hK => ?_)
      | (refine Tri.region ?_; simp [upd])
      | (refine Tri.draw (by kernel_rfl) (by decide +kernel) ?_; simp [upd])
      | (refine Tri.cond_true ?_ ?_; (focus simp [upd]; done))
      | (refine Tri.cond_false ?_ ?_; (focus simp [upd]; done))
      | (refine Tri.skip ?_; simp only [thenS, blockS])
      | (refine Tri.block_seq ?_)
      | (refine Tri.block_region ?_)
      | (refine Tri.block_cond ?_)
      | ((with_reducible refine CallK.pure (h0) (Wks.refl _) ?_); simp [upd])
      | ((with_reducible refine CallK.pure (h1) (Wks.refl _) ?_); simp [upd])
      | (refine Tri.exit ?_; simp [upd]; first | (rename ∀ st, Tri _ _ _ st _ → _ => hK; first | (apply hK; clear hK) | (clear hK; rename ∀ st, Tri _ _ _ st _ → _ => hK; first | (apply hK; clear hK) | (clear hK; rename ∀ st, Tri _ _ _ st _ → _ => hK; first | (apply hK; clear hK) | (clear hK; rename ∀ st, Tri _ _ _ st _ → _ => hK; first | (apply hK; clear hK) | (clear hK; rename ∀ st, Tri _ _ _ st _ → _ => hK; first | (apply hK; clear hK) | (clear hK; rename ∀ st, Tri _ _ _ st _ → _ => hK; apply hK; clear hK)))))) | skip)
      | (intro β)
      | (rename ∀ st, Tri _ _ _ st _ → _ => hK; apply hK; clear hK))
    refine Tri.ret ⟨_, rfl, ?_⟩
    simp [upd]
    exact Wk.refl _
  obtain ⟨b1, b2, b3⟩ := few56 g
  rw [g] at h1
  have h3 := cp_does r ⟨ha, hd, by omega, by omega⟩
  simp only [recC] at h3
  cases hc : ((cut r s).2 == 0)
  case false =>
    generalize cut r s = c at *
    repeat (first
      | (refine Tri.seq fun K hK => ?_)
      | (refine Tri.region ?_; simp [upd, hc, bne])
      | (refine Tri.draw (by kernel_rfl) (by decide +kernel) ?_; simp [upd, hc, bne])
      | (refine Tri.cond_true ?_ ?_; (focus simp [upd, hc, bne]; done))
      | (refine Tri.cond_false ?_ ?_; (focus simp [upd, hc, bne]; done))
      | (refine Tri.skip ?_; simp only [thenS, blockS])
      | (refine Tri.block_seq ?_)
      | (refine Tri.block_region ?_)
      | (refine Tri.block_cond ?_)
      | ((with_reducible refine CallK.pure (h0) (Wks.refl _) ?_); simp [upd, hc, bne])
      | ((with_reducible refine CallK.pure (h1) (Wks.refl _) ?_); simp [upd, hc, bne])
      | ((with_reducible refine CallK.pure (h3) (Wks.refl _) ?_); simp [upd, hc, bne])
      | ((with_reducible refine CallK.pure (h4) (Wks.refl _) ?_); simp [upd, hc, bne])
      | (refine Tri.exit ?_; simp [upd, hc, bne]; first | (rename ∀ st, Tri _ _ _ st _ → _ => hK; first | (apply hK; clear hK) | (clear hK; rename ∀ st, Tri _ _ _ st _ → _ => hK; first | (apply hK; clear hK) | (clear hK; rename ∀ st, Tri _ _ _ st _ → _ => hK; first | (apply hK; clear hK) | (clear hK; rename ∀ st, Tri _ _ _ st _ → _ => hK; first | (apply hK; clear hK) | (clear hK; rename ∀ st, Tri _ _ _ st _ → _ => hK; first | (apply hK; clear hK) | (clear hK; rename ∀ st, Tri _ _ _ st _ → _ => hK; apply hK; clear hK)))))) | skip)
      | (intro β)
      | (rename ∀ st, Tri _ _ _ st _ → _ => hK; apply hK; clear hK))
    refine Tri.ret ⟨_, rfl, ?_⟩
    simp [upd]
    exact Wk.refl _
  have hcut : check r = 0 ∧ 0 ≤ s ∧ s ≤ r.slots ∧ cut r s = (⟨s, (fA s r.atts).isEmpty, fA s r.atts, (fD s r.dels).isEmpty, fD s r.dels⟩, 0) := by
    unfold cut at hc ⊢
    by_cases q1 : check r = 0
    · rw [if_pos q1] at hc ⊢
      by_cases q2 : s < 0 ∨ r.slots < s
      · rw [if_pos q2] at hc; simp at hc
      · exact ⟨q1, by omega, by omega, by rw [if_neg q2]⟩
    · rw [if_neg q1] at hc; simp at hc
  obtain ⟨hck, q0, q1, hcu⟩ := hcut
  have hin := (check_iff r).1 hck
  have hck2 := (check_iff _).2 (hin.cutOf q0 q1 (fA s r.atts).isEmpty (fD s r.dels).isEmpty)
  have h6 := late_does l nl ⟨s, (fA s r.atts).isEmpty, fA s r.atts, (fD s r.dels).isEmpty, fD s r.dels⟩
  rw [hcu] at h4
  simp only [recC] at h4 h6
  by_cases hg : flowsE l = 0
  case neg =>
    have e1 : lateN l r = [] := by unfold lateN; rw [if_neg (fun h => hg h.1)]
    have e2 : lateE l r = 1 := by unfold lateE; rw [if_neg (fun h => hg h.1)]
    have e3 : lateN l ⟨s, (fA s r.atts).isEmpty, fA s r.atts, (fD s r.dels).isEmpty, fD s r.dels⟩ = [] := by unfold lateN; rw [if_neg (fun h => hg h.1)]
    have e4 : lateE l ⟨s, (fA s r.atts).isEmpty, fA s r.atts, (fD s r.dels).isEmpty, fD s r.dels⟩ = 1 := by unfold lateE; rw [if_neg (fun h => hg h.1)]
    rw [e1, e2] at h5
    rw [e3, e4] at h6
    repeat (first
      | (refine Tri.seq fun K hK => ?_)
      | (refine Tri.region ?_; simp [upd, bne])
      | (refine Tri.draw (by kernel_rfl) (by decide +kernel) ?_; simp [upd, bne])
      | (refine Tri.cond_true ?_ ?_; (focus simp [upd, bne]; done))
      | (refine Tri.cond_false ?_ ?_; (focus simp [upd, bne]; done))
      | (refine Tri.skip ?_; simp only [thenS, blockS])
      | (refine Tri.block_seq ?_)
      | (refine Tri.block_region ?_)
      | (refine Tri.block_cond ?_)
      | ((with_reducible refine CallK.pure (h0) (Wks.refl _) ?_); simp [upd, bne])
      | ((with_reducible refine CallK.pure (h1) (Wks.refl _) ?_); simp [upd, bne])
      | ((with_reducible refine CallK.pure (h3) (Wks.refl _) ?_); simp [upd, bne])
      | ((with_reducible refine CallK.pure (h4) (Wks.refl _) ?_); simp [upd, bne])
      | ((with_reducible refine CallK.pure (h6) (Wks.refl _) ?_); simp [upd, bne])
      | ((with_reducible refine CallK.pure (h5) (Wks.refl _) ?_); simp [upd, bne])
      | (refine Tri.block_loop 2 ?_)
      | (refine Rounds.step ?_)
      | (refine Tri.exit ?_; simp [upd, bne]; first | (rename ∀ st, Tri _ _ _ st _ → _ => hK; first | (apply hK; clear hK) | (clear hK; rename ∀ st, Tri _ _ _ st _ → _ => hK; first | (apply hK; clear hK) | (clear hK; rename ∀ st, Tri _ _ _ st _ → _ => hK; first | (apply hK; clear hK) | (clear hK; rename ∀ st, Tri _ _ _ st _ → _ => hK; first | (apply hK; clear hK) | (clear hK; rename ∀ st, Tri _ _ _ st _ → _ => hK; first | (apply hK; clear hK) | (clear hK; rename ∀ st, Tri _ _ _ st _ → _ => hK; apply hK; clear hK)))))) | skip)
      | (intro β)
      | (rename ∀ st, Tri _ _ _ st _ → _ => hK; apply hK; clear hK))
    refine Tri.ret ⟨_, rfl, ?_⟩
    simp [upd]
    exact Wk.refl _
  have e1 : lateN l r = lates l r := by unfold lateN; rw [if_pos ⟨hg, hck⟩]
  have e2 : lateE l r = 0 := by unfold lateE; rw [if_pos ⟨hg, hck⟩]
  have e3 : lateN l ⟨s, (fA s r.atts).isEmpty, fA s r.atts, (fD s r.dels).isEmpty, fD s r.dels⟩ = lates l ⟨s, (fA s r.atts).isEmpty, fA s r.atts, (fD s r.dels).isEmpty, fD s r.dels⟩ := by unfold lateN; rw [if_pos ⟨hg, hck2⟩]
  have e4 : lateE l ⟨s, (fA s r.atts).isEmpty, fA s r.atts, (fD s r.dels).isEmpty, fD s r.dels⟩ = 0 := by unfold lateE; rw [if_pos ⟨hg, hck2⟩]
  have la := lateN_len l ⟨s, (fA s r.atts).isEmpty, fA s r.atts, (fD s r.dels).isEmpty, fD s r.dels⟩
  have lb := lateN_len l r
  rw [e1] at lb
  rw [e3] at la
  rw [e1, e2] at h5
  rw [e3, e4] at h6
  obtain ⟨hl16, hfa, hord⟩ := flows_ok hg
  have hdel := check_dels hck
  have hpw := hin.dels.2
  obtain ⟨hs0, hs1⟩ := check_slots hck
  have key : ∀ x ∈ lates l ⟨s, (fA s r.atts).isEmpty, fA s r.atts, (fD s r.dels).isEmpty, fD s r.dels⟩, ∃ (j : Nat) (hj : j < l.length) (m : Nat), x.f = l[j].id ∧ x.n = (m : Int) ∧ m ≤ 4097 ∧ ∃ y ∈ lates l r, y.f = x.f ∧ y.n = x.n ∧ (x.s ≠ -1 → y = x) ∧ (relI l[j] m + l[j].per - 1 < s → y = x) := by
    intro x hx
    obtain ⟨f, hf, m, hm, hxm⟩ := mem_lates.1 hx
    obtain ⟨j, hj, rfl⟩ := List.getElem_of_mem hf
    have hp := fault_ok (hfa j hj)
    have hre := (comp_iff (s := s) hp m).2 (by simp only at hm; omega)
    obtain ⟨c1, c2, y, c3, c4, c5, c6, c7⟩ := late1_cut l[j] s r.dels hpw hdel m hre x hxm
    have hcb := comp_b (hfa j hj) q0 (by omega : s ≤ 4096)
    refine ⟨j, hj, m, c1, c2, by simp only at hm; omega, y, ?_, c4, c5, c6, c7⟩
    exact mem_lates.2 ⟨l[j], hf, m, comp_mono hp q1 m hm, by rw [c3]; exact List.mem_singleton.2 rfl⟩
  have hinj := fun x y hx hy => lates_inj (l := l) (r := r) hord (x := x) (y := y) hx hy
  generalize lates l ⟨s, (fA s r.atts).isEmpty, fA s r.atts, (fD s r.dels).isEmpty, fD s r.dels⟩ = a at *
  generalize lates l r = b at *
  generalize a.isEmpty = na at *
  generalize b.isEmpty = nb at *
  repeat (first
    | (refine Tri.seq fun K hK => ?_)
    | (refine Tri.region ?_; simp [upd, bne])
    | (refine Tri.draw (by kernel_rfl) (by decide +kernel) ?_; simp [upd, bne])
    | (refine Tri.cond_true ?_ ?_; (focus simp [upd, bne]; done))
    | (refine Tri.cond_false ?_ ?_; (focus simp [upd, bne]; done))
    | (refine Tri.skip ?_; simp only [thenS, blockS])
    | (refine Tri.block_seq ?_)
    | (refine Tri.block_region ?_)
    | (refine Tri.block_cond ?_)
    | ((with_reducible refine CallK.pure (h0) (Wks.refl _) ?_); simp [upd, bne])
    | ((with_reducible refine CallK.pure (h1) (Wks.refl _) ?_); simp [upd, bne])
    | ((with_reducible refine CallK.pure (h3) (Wks.refl _) ?_); simp [upd, bne])
    | ((with_reducible refine CallK.pure (h4) (Wks.refl _) ?_); simp [upd, bne])
    | ((with_reducible refine CallK.pure (h6) (Wks.refl _) ?_); simp [upd, bne])
    | ((with_reducible refine CallK.pure (h5) (Wks.refl _) ?_); simp [upd, bne])
    | (refine Tri.exit ?_; simp [upd, bne]; first | (rename ∀ st, Tri _ _ _ st _ → _ => hK; first | (apply hK; clear hK) | (clear hK; rename ∀ st, Tri _ _ _ st _ → _ => hK; first | (apply hK; clear hK) | (clear hK; rename ∀ st, Tri _ _ _ st _ → _ => hK; first | (apply hK; clear hK) | (clear hK; rename ∀ st, Tri _ _ _ st _ → _ => hK; first | (apply hK; clear hK) | (clear hK; rename ∀ st, Tri _ _ _ st _ → _ => hK; first | (apply hK; clear hK) | (clear hK; rename ∀ st, Tri _ _ _ st _ → _ => hK; apply hK; clear hK)))))) | skip)
    | (intro β)
    | (rename ∀ st, Tri _ _ _ st _ → _ => hK; apply hK; clear hK))
  refine Tri.range 56 55 57 108 109 rfl rfl a.length (GI l nl s a b na nb) (by simp) (by omega) ?_ rfl (by simp [upd]) (by simp [upd]) ?_ ?_ ?_
  · rintro k st t v ht ⟨hn, s0, s2, s54, s11⟩
    rcases ht with rfl | rfl | rfl <;> exact ⟨hn, by simpa [upd] using s0, by simpa [upd] using s2, by simpa [upd] using s54, by simpa [upd] using s11⟩
  · exact ⟨rfl, by simp [upd], by simp [upd], by simp [upd], by simp [upd]⟩
  · rintro k st hk ⟨-, s0, s2, s54, s11⟩ hn h56 h55
    obtain ⟨j, hj, m, hxf, hxn, hm, y, hy, hyf, hyn, hy1, hy2⟩ := key a[k] (List.getElem_mem hk)
    have hix := fun b0 => indexL 35 (sameL a[k]) b0 (latC a[k]) (fun y => cloL a[k] y b0) b nb lb
    have hfd := find_does l nl a[k].f (by omega)
    rw [hxf, (find_at l hord j hj).2] at hfd
    have hwd := window_does l[j] m (hfa j hj) (by omega) (by omega)
    rcases idxI_cases (sameL a[k]) b with ⟨_, c2⟩ | ⟨i, hi, c1, c2, _⟩
    · have := c2 y hy
      unfold sameL at this
      rw [hyf, hyn] at this
      simp at this
    rw [c1] at hix
    simp only [sameL, Bool.and_eq_true, beq_iff_eq] at c2
    have hby : b[i] = y := hinj _ _ (List.getElem_mem hi) hy (c2.1.trans hyf.symm) (c2.2.trans hyn.symm)
    have e1 : b[i].f = l[j].id := by rw [c2.1, hxf]
    have e2 : b[i].n = (m : Int) := by rw [c2.2, hxn]
    have hi0 : ¬ ((i : Int) < 0) := by omega
    have hi1 : (0 : Int) ≤ (i : Int) := by omega
    have hj0 : ¬ ((j : Int) < 0) := by omega
    have hj1 : (0 : Int) ≤ (j : Int) := by omega
    rw [← hby] at hy1 hy2
    simp only [latC] at hix
    rw [hxf, hxn] at hix
    cases m1 : (a[k].s == -1)
    · have e3 : b[i].s = a[k].s := by rw [hy1 (by simpa using m1)]
      by_cases m2 : relI l[j] m + l[j].per - 1 < s
      · repeat (first
          | (refine Tri.seq fun K hK => ?_)
          | (refine Tri.region ?_; simp [upd, hn, s0, s2, s54, s11, h56, h55, hk, hi, hi0, hi1, hj, hj0, hj1, bne, e1, e2, m1, m2, e3, hxf, hxn])
          | (refine Tri.draw (by kernel_rfl) (by decide +kernel) ?_; simp [upd, hn, s0, s2, s54, s11, h56, h55, hk, hi, hi0, hi1, hj, hj0, hj1, bne, e1, e2, m1, m2, e3, hxf, hxn])
          | (refine Tri.draw2 [] [0, 1, 2, 3, 4, 5, 6, 7, 8, 9, 10, 11, 12, 13, 14] [] [] (by kernel_rfl) (by kernel_rfl) (by decide) (by rfl) (by decide +kernel) ?_; simp [upd, hn, s0, s2, s54, s11, h56, h55, hk, hi, hi0, hi1, hj, hj0, hj1, bne, e1, e2, m1, m2, e3, hxf, hxn])
          | (refine Tri.draw2 [] [0, 1, 2, 3, 4, 5, 6, 7, 8, 9, 10, 11, 12, 13] [] [] (by kernel_rfl) (by kernel_rfl) (by decide) (by rfl) (by decide +kernel) ?_; simp [upd, hn, s0, s2, s54, s11, h56, h55, hk, hi, hi0, hi1, hj, hj0, hj1, bne, e1, e2, m1, m2, e3, hxf, hxn])
          | (refine Tri.cond_true ?_ ?_; (focus simp [upd, hn, s0, s2, s54, s11, h56, h55, hk, hi, hi0, hi1, hj, hj0, hj1, bne, e1, e2, m1, m2, e3, hxf, hxn]; done))
          | (refine Tri.cond_false ?_ ?_; (focus simp [upd, hn, s0, s2, s54, s11, h56, h55, hk, hi, hi0, hi1, hj, hj0, hj1, bne, e1, e2, m1, m2, e3, hxf, hxn]; done))
          | (refine Tri.skip ?_; simp only [thenS, blockS])
          | (refine Tri.block_seq ?_)
          | (refine Tri.block_region ?_)
          | (refine Tri.block_cond ?_)
          | (refine CallK.look 14 (hix _) ⟨.refl _, .fn1 _ (.box _ _ _ _), trivial⟩ ?_ ?_; (focus (simp [upd]; done)); simp [upd, hn, s0, s2, s54, s11, h56, h55, hk, hi, hi0, hi1, hj, hj0, hj1, bne, e1, e2, m1, m2, e3, hxf, hxn])
          | ((with_reducible refine CallK.pure (hfd) (Wks.refl _) ?_); simp [upd, hn, s0, s2, s54, s11, h56, h55, hk, hi, hi0, hi1, hj, hj0, hj1, bne, e1, e2, m1, m2, e3, hxf, hxn])
          | ((with_reducible refine CallK.pure (hwd) (Wks.refl _) ?_); simp [upd, hn, s0, s2, s54, s11, h56, h55, hk, hi, hi0, hi1, hj, hj0, hj1, bne, e1, e2, m1, m2, e3, hxf, hxn])
          | (refine Tri.exit ?_; simp [upd, hn, s0, s2, s54, s11, h56, h55, hk, hi, hi0, hi1, hj, hj0, hj1, bne, e1, e2, m1, m2, e3, hxf, hxn]; first | (rename ∀ st, Tri _ _ _ st _ → _ => hK; first | (apply hK; clear hK) | (clear hK; rename ∀ st, Tri _ _ _ st _ → _ => hK; first | (apply hK; clear hK) | (clear hK; rename ∀ st, Tri _ _ _ st _ → _ => hK; first | (apply hK; clear hK) | (clear hK; rename ∀ st, Tri _ _ _ st _ → _ => hK; first | (apply hK; clear hK) | (clear hK; rename ∀ st, Tri _ _ _ st _ → _ => hK; first | (apply hK; clear hK) | (clear hK; rename ∀ st, Tri _ _ _ st _ → _ => hK; apply hK; clear hK)))))) | skip)
          | (intro β)
          | (rename ∀ st, Tri _ _ _ st _ → _ => hK; apply hK; clear hK))
        refine ⟨⟨rfl, by simp [upd, s0], by simp [upd, s2], by simp [upd, s54], by simp [upd, s11]⟩, ?_⟩
        simp [upd, h56, h55]
      · repeat (first
          | (refine Tri.seq fun K hK => ?_)
          | (refine Tri.region ?_; simp [upd, hn, s0, s2, s54, s11, h56, h55, hk, hi, hi0, hi1, hj, hj0, hj1, bne, e1, e2, m1, m2, e3, hxf, hxn])
          | (refine Tri.draw (by kernel_rfl) (by decide +kernel) ?_; simp [upd, hn, s0, s2, s54, s11, h56, h55, hk, hi, hi0, hi1, hj, hj0, hj1, bne, e1, e2, m1, m2, e3, hxf, hxn])
          | (refine Tri.draw2 [] [0, 1, 2, 3, 4, 5, 6, 7, 8, 9, 10, 11, 12, 13, 14] [] [] (by kernel_rfl) (by kernel_rfl) (by decide) (by rfl) (by decide +kernel) ?_; simp [upd, hn, s0, s2, s54, s11, h56, h55, hk, hi, hi0, hi1, hj, hj0, hj1, bne, e1, e2, m1, m2, e3, hxf, hxn])
          | (refine Tri.draw2 [] [0, 1, 2, 3, 4, 5, 6, 7, 8, 9, 10, 11, 12, 13] [] [] (by kernel_rfl) (by kernel_rfl) (by decide) (by rfl) (by decide +kernel) ?_; simp [upd, hn, s0, s2, s54, s11, h56, h55, hk, hi, hi0, hi1, hj, hj0, hj1, bne, e1, e2, m1, m2, e3, hxf, hxn])
          | (refine Tri.cond_true ?_ ?_; (focus simp [upd, hn, s0, s2, s54, s11, h56, h55, hk, hi, hi0, hi1, hj, hj0, hj1, bne, e1, e2, m1, m2, e3, hxf, hxn]; done))
          | (refine Tri.cond_false ?_ ?_; (focus simp [upd, hn, s0, s2, s54, s11, h56, h55, hk, hi, hi0, hi1, hj, hj0, hj1, bne, e1, e2, m1, m2, e3, hxf, hxn]; done))
          | (refine Tri.skip ?_; simp only [thenS, blockS])
          | (refine Tri.block_seq ?_)
          | (refine Tri.block_region ?_)
          | (refine Tri.block_cond ?_)
          | (refine CallK.look 14 (hix _) ⟨.refl _, .fn1 _ (.box _ _ _ _), trivial⟩ ?_ ?_; (focus (simp [upd]; done)); simp [upd, hn, s0, s2, s54, s11, h56, h55, hk, hi, hi0, hi1, hj, hj0, hj1, bne, e1, e2, m1, m2, e3, hxf, hxn])
          | ((with_reducible refine CallK.pure (hfd) (Wks.refl _) ?_); simp [upd, hn, s0, s2, s54, s11, h56, h55, hk, hi, hi0, hi1, hj, hj0, hj1, bne, e1, e2, m1, m2, e3, hxf, hxn])
          | ((with_reducible refine CallK.pure (hwd) (Wks.refl _) ?_); simp [upd, hn, s0, s2, s54, s11, h56, h55, hk, hi, hi0, hi1, hj, hj0, hj1, bne, e1, e2, m1, m2, e3, hxf, hxn])
          | (refine Tri.exit ?_; simp [upd, hn, s0, s2, s54, s11, h56, h55, hk, hi, hi0, hi1, hj, hj0, hj1, bne, e1, e2, m1, m2, e3, hxf, hxn]; first | (rename ∀ st, Tri _ _ _ st _ → _ => hK; first | (apply hK; clear hK) | (clear hK; rename ∀ st, Tri _ _ _ st _ → _ => hK; first | (apply hK; clear hK) | (clear hK; rename ∀ st, Tri _ _ _ st _ → _ => hK; first | (apply hK; clear hK) | (clear hK; rename ∀ st, Tri _ _ _ st _ → _ => hK; first | (apply hK; clear hK) | (clear hK; rename ∀ st, Tri _ _ _ st _ → _ => hK; first | (apply hK; clear hK) | (clear hK; rename ∀ st, Tri _ _ _ st _ → _ => hK; apply hK; clear hK)))))) | skip)
          | (intro β)
          | (rename ∀ st, Tri _ _ _ st _ → _ => hK; apply hK; clear hK))
        refine ⟨⟨rfl, by simp [upd, s0], by simp [upd, s2], by simp [upd, s54], by simp [upd, s11]⟩, ?_⟩
        simp [upd, h56, h55]
    · by_cases m2 : relI l[j] m + l[j].per - 1 < s
      · have e3 : b[i].s = a[k].s := by rw [hy2 m2]
        repeat (first
          | (refine Tri.seq fun K hK => ?_)
          | (refine Tri.region ?_; simp [upd, hn, s0, s2, s54, s11, h56, h55, hk, hi, hi0, hi1, hj, hj0, hj1, bne, e1, e2, m1, m2, e3, hxf, hxn])
          | (refine Tri.draw (by kernel_rfl) (by decide +kernel) ?_; simp [upd, hn, s0, s2, s54, s11, h56, h55, hk, hi, hi0, hi1, hj, hj0, hj1, bne, e1, e2, m1, m2, e3, hxf, hxn])
          | (refine Tri.draw2 [] [0, 1, 2, 3, 4, 5, 6, 7, 8, 9, 10, 11, 12, 13, 14] [] [] (by kernel_rfl) (by kernel_rfl) (by decide) (by rfl) (by decide +kernel) ?_; simp [upd, hn, s0, s2, s54, s11, h56, h55, hk, hi, hi0, hi1, hj, hj0, hj1, bne, e1, e2, m1, m2, e3, hxf, hxn])
          | (refine Tri.draw2 [] [0, 1, 2, 3, 4, 5, 6, 7, 8, 9, 10, 11, 12, 13] [] [] (by kernel_rfl) (by kernel_rfl) (by decide) (by rfl) (by decide +kernel) ?_; simp [upd, hn, s0, s2, s54, s11, h56, h55, hk, hi, hi0, hi1, hj, hj0, hj1, bne, e1, e2, m1, m2, e3, hxf, hxn])
          | (refine Tri.cond_true ?_ ?_; (focus simp [upd, hn, s0, s2, s54, s11, h56, h55, hk, hi, hi0, hi1, hj, hj0, hj1, bne, e1, e2, m1, m2, e3, hxf, hxn]; done))
          | (refine Tri.cond_false ?_ ?_; (focus simp [upd, hn, s0, s2, s54, s11, h56, h55, hk, hi, hi0, hi1, hj, hj0, hj1, bne, e1, e2, m1, m2, e3, hxf, hxn]; done))
          | (refine Tri.skip ?_; simp only [thenS, blockS])
          | (refine Tri.block_seq ?_)
          | (refine Tri.block_region ?_)
          | (refine Tri.block_cond ?_)
          | (refine CallK.look 14 (hix _) ⟨.refl _, .fn1 _ (.box _ _ _ _), trivial⟩ ?_ ?_; (focus (simp [upd]; done)); simp [upd, hn, s0, s2, s54, s11, h56, h55, hk, hi, hi0, hi1, hj, hj0, hj1, bne, e1, e2, m1, m2, e3, hxf, hxn])
          | ((with_reducible refine CallK.pure (hfd) (Wks.refl _) ?_); simp [upd, hn, s0, s2, s54, s11, h56, h55, hk, hi, hi0, hi1, hj, hj0, hj1, bne, e1, e2, m1, m2, e3, hxf, hxn])
          | ((with_reducible refine CallK.pure (hwd) (Wks.refl _) ?_); simp [upd, hn, s0, s2, s54, s11, h56, h55, hk, hi, hi0, hi1, hj, hj0, hj1, bne, e1, e2, m1, m2, e3, hxf, hxn])
          | (refine Tri.exit ?_; simp [upd, hn, s0, s2, s54, s11, h56, h55, hk, hi, hi0, hi1, hj, hj0, hj1, bne, e1, e2, m1, m2, e3, hxf, hxn]; first | (rename ∀ st, Tri _ _ _ st _ → _ => hK; first | (apply hK; clear hK) | (clear hK; rename ∀ st, Tri _ _ _ st _ → _ => hK; first | (apply hK; clear hK) | (clear hK; rename ∀ st, Tri _ _ _ st _ → _ => hK; first | (apply hK; clear hK) | (clear hK; rename ∀ st, Tri _ _ _ st _ → _ => hK; first | (apply hK; clear hK) | (clear hK; rename ∀ st, Tri _ _ _ st _ → _ => hK; first | (apply hK; clear hK) | (clear hK; rename ∀ st, Tri _ _ _ st _ → _ => hK; apply hK; clear hK)))))) | skip)
          | (intro β)
          | (rename ∀ st, Tri _ _ _ st _ → _ => hK; apply hK; clear hK))
        refine ⟨⟨rfl, by simp [upd, s0], by simp [upd, s2], by simp [upd, s54], by simp [upd, s11]⟩, ?_⟩
        simp [upd, h56, h55]
      · repeat (first
          | (refine Tri.seq fun K hK => ?_)
          | (refine Tri.region ?_; simp [upd, hn, s0, s2, s54, s11, h56, h55, hk, hi, hi0, hi1, hj, hj0, hj1, bne, e1, e2, m1, m2, hxf, hxn])
          | (refine Tri.draw (by kernel_rfl) (by decide +kernel) ?_; simp [upd, hn, s0, s2, s54, s11, h56, h55, hk, hi, hi0, hi1, hj, hj0, hj1, bne, e1, e2, m1, m2, hxf, hxn])
          | (refine Tri.draw2 [] [0, 1, 2, 3, 4, 5, 6, 7, 8, 9, 10, 11, 12, 13, 14] [] [] (by kernel_rfl) (by kernel_rfl) (by decide) (by rfl) (by decide +kernel) ?_; simp [upd, hn, s0, s2, s54, s11, h56, h55, hk, hi, hi0, hi1, hj, hj0, hj1, bne, e1, e2, m1, m2, hxf, hxn])
          | (refine Tri.draw2 [] [0, 1, 2, 3, 4, 5, 6, 7, 8, 9, 10, 11, 12, 13] [] [] (by kernel_rfl) (by kernel_rfl) (by decide) (by rfl) (by decide +kernel) ?_; simp [upd, hn, s0, s2, s54, s11, h56, h55, hk, hi, hi0, hi1, hj, hj0, hj1, bne, e1, e2, m1, m2, hxf, hxn])
          | (refine Tri.cond_true ?_ ?_; (focus simp [upd, hn, s0, s2, s54, s11, h56, h55, hk, hi, hi0, hi1, hj, hj0, hj1, bne, e1, e2, m1, m2, hxf, hxn]; done))
          | (refine Tri.cond_false ?_ ?_; (focus simp [upd, hn, s0, s2, s54, s11, h56, h55, hk, hi, hi0, hi1, hj, hj0, hj1, bne, e1, e2, m1, m2, hxf, hxn]; done))
          | (refine Tri.skip ?_; simp only [thenS, blockS])
          | (refine Tri.block_seq ?_)
          | (refine Tri.block_region ?_)
          | (refine Tri.block_cond ?_)
          | (refine CallK.look 14 (hix _) ⟨.refl _, .fn1 _ (.box _ _ _ _), trivial⟩ ?_ ?_; (focus (simp [upd]; done)); simp [upd, hn, s0, s2, s54, s11, h56, h55, hk, hi, hi0, hi1, hj, hj0, hj1, bne, e1, e2, m1, m2, hxf, hxn])
          | ((with_reducible refine CallK.pure (hfd) (Wks.refl _) ?_); simp [upd, hn, s0, s2, s54, s11, h56, h55, hk, hi, hi0, hi1, hj, hj0, hj1, bne, e1, e2, m1, m2, hxf, hxn])
          | ((with_reducible refine CallK.pure (hwd) (Wks.refl _) ?_); simp [upd, hn, s0, s2, s54, s11, h56, h55, hk, hi, hi0, hi1, hj, hj0, hj1, bne, e1, e2, m1, m2, hxf, hxn])
          | (refine Tri.exit ?_; simp [upd, hn, s0, s2, s54, s11, h56, h55, hk, hi, hi0, hi1, hj, hj0, hj1, bne, e1, e2, m1, m2, hxf, hxn]; first | (rename ∀ st, Tri _ _ _ st _ → _ => hK; first | (apply hK; clear hK) | (clear hK; rename ∀ st, Tri _ _ _ st _ → _ => hK; first | (apply hK; clear hK) | (clear hK; rename ∀ st, Tri _ _ _ st _ → _ => hK; first | (apply hK; clear hK) | (clear hK; rename ∀ st, Tri _ _ _ st _ → _ => hK; first | (apply hK; clear hK) | (clear hK; rename ∀ st, Tri _ _ _ st _ → _ => hK; first | (apply hK; clear hK) | (clear hK; rename ∀ st, Tri _ _ _ st _ → _ => hK; apply hK; clear hK)))))) | skip)
          | (intro β)
          | (rename ∀ st, Tri _ _ _ st _ → _ => hK; apply hK; clear hK))
        refine ⟨⟨rfl, by simp [upd, s0], by simp [upd, s2], by simp [upd, s54], by simp [upd, s11]⟩, ?_⟩
        simp [upd, h56, h55]
  · rintro st ⟨-, s0, s2, s54, s11⟩ hn
    rename ∀ st, Tri _ _ _ st _ → _ => hK
    apply hK
    repeat (first
      | (refine Tri.seq fun K hK => ?_)
      | (refine Tri.region ?_; simp [upd, hn])
      | (refine Tri.draw (by kernel_rfl) (by decide +kernel) ?_; simp [upd, hn])
      | (refine Tri.cond_true ?_ ?_; (focus simp [upd, hn]; done))
      | (refine Tri.cond_false ?_ ?_; (focus simp [upd, hn]; done))
      | (refine Tri.skip ?_; simp only [thenS, blockS])
      | (refine Tri.block_seq ?_)
      | (refine Tri.block_region ?_)
      | (refine Tri.block_cond ?_)
      | (refine Tri.exit ?_; simp [upd, hn]; first | (rename ∀ st, Tri _ _ _ st _ → _ => hK; first | (apply hK; clear hK) | (clear hK; rename ∀ st, Tri _ _ _ st _ → _ => hK; first | (apply hK; clear hK) | (clear hK; rename ∀ st, Tri _ _ _ st _ → _ => hK; first | (apply hK; clear hK) | (clear hK; rename ∀ st, Tri _ _ _ st _ → _ => hK; first | (apply hK; clear hK) | (clear hK; rename ∀ st, Tri _ _ _ st _ → _ => hK; first | (apply hK; clear hK) | (clear hK; rename ∀ st, Tri _ _ _ st _ → _ => hK; apply hK; clear hK)))))) | skip)
      | (intro β)
      | (rename ∀ st, Tri _ _ _ st _ → _ => hK; apply hK; clear hK))
    refine Tri.ret ⟨_, rfl, ?_⟩
    simp [upd]
    exact Wk.refl _
end Go.Proofs.Ytngbpmiikpjiaaa
end
section
open Go Go.Vm
open Go.ChangeShapes Go.WideShapes Go.ChangeAt Go.RowKit
namespace Go.Proofs.Ytngbpmiikpjiaaa.monitorGrows
set_option linter.unusedVariables false
theorem own : ownKnob Try.prog.godebug = none := by kernel_rfl
set_option maxRecDepth 100000 in
theorem lifted (os : Os) (started : os.Started) (H : Type) (enc : TypeId × Value → H) :
    ReturnsInHanded {} Try.checked os 8 .any (Rows.monitorGrowsSpec.pre6 enc Try.prog Try.f8 Rows.monitorGrowsRow.domain false) (Rows.monitorGrowsSpec.post enc Try.prog Try.f8 false true false false) := by
  refine returnsInHanded_of_change (C := Try.checked) own started (by kernel_rfl) Try.func8
    (ChangeSpec.witness6 (enc := enc) (C := Try.checked) false ⟨#[], #[.slice none 0 0, .agg #[.int .i64 0, .slice none 0 0, .slice none 0 0], .int .i64 0], []⟩ 8 (by kernel_rfl) (by kernel_rfl) (by kernel_rfl) (by kernel_rfl)) ?_
  intro W base args ds gs before hval0 hW hcnd _
  have hval : ∀ (j : Nat) t v, Try.f8.params[j]? = some t → args[j]? = some v → Value.okWide Try.prog W .any base t v := hval0
  have hW' := hW
  obtain ⟨p, q, hA0, hV, rfl, hfz, hnd⟩ := hW
  have hA : DataW.TrodAll enc Try.prog W 0 (fun _ => true) true Try.f8.params.toList args.toList ds p := hA0
  rw [Try.params8] at hA hval
  obtain ⟨v0, vs0, d0, ds0, p0, q0, hargs0, rfl, rfl, h0, r0⟩ := trodAll_cons hA
  obtain ⟨v1, vs1, d1, ds1, p1, q1, hargs1, rfl, rfl, h1, r1⟩ := trodAll_cons r0
  subst hargs1
  obtain ⟨v2, vs2, d2, ds2, p2, q2, hargs2, rfl, rfl, h2, r2⟩ := trodAll_cons r1
  subst hargs2
  obtain ⟨rfl, rfl, rfl⟩ := trodAll_nil r2
  obtain rfl : args = #[v0, v1, v2] := by cases args; simp_all
  obtain ⟨rfl, rfl⟩ := trodVars_none hV
  obtain ⟨ln, l, hla, hll, hv0⟩ := open_flows (hval 0 22 v0 rfl rfl) h0
  obtain ⟨r, hra, hrd, hrl, hrm, hv1⟩ := open_rec (hval 1 28 v1 rfl rfl) h1
  obtain ⟨sl, rfl, rfl, rfl, w2⟩ := open_int (k := .i64) (by kernel_rfl) (hval 2 3 v2 rfl rfl) h2
  have hsl : -9223372036854775808 ≤ sl ∧ sl < 9223372036854775808 := by
    have := w2
    simp [Lit.wf, IntKind.min, IntKind.max, IntKind.signed, IntKind.bits] at this
    omega
  clear hA0 hval0
  simp only [List.append_nil] at hW'
  have hlt := hW'.lt
  have hD := (monitorGrows_does l ln r sl hla hra hrd).2 (fun b _ => b < W.heap.size) W [v0, v1, .int .i64 sl] ⟨rfl, fun k hk => match k, hk with
    | 0, _ => hv0
    | 1, _ => hv1
    | 2, _ => .c (.int _ _)⟩ (fun b _ h => h)
  refine hD.mono fun e W' ⟨u, F', he, hu, hl⟩ => ?_
  subst he
  have hb : Below W.heap.size W W' := ⟨hl.os, hl.tape, hl.output, hl.size, hl.block⟩
  have hu' := hu.inv
  cases hu'
  have hsame0 : ∀ p ∈ p0, W.sameAt W' p := fun p hp => hb.same (hlt p (by simp [hp]))
  have hsame1 : ∀ p ∈ p1, W.sameAt W' p := fun p hp => hb.same (hlt p (by simp [hp]))
  exact ⟨_, rfl, post_below (pa := (p0 ++ (p1 ++ ([] ++ [])))) (pv := []) hW' hb (by simp) (fun _ _ _ => (trodAll_cons_mk (shut_bool Try.underlying4 _) trodAll_mk0))
    (fun sp hsp => (trodAll_cons_mk (WideElems.Trod_stays (by kernel_rfl) (by kernel_rfl) (by decide +kernel) h0 hsame0 fun p hp => hsp p (by simp [hp])) (trodAll_cons_mk (WideElems.Trod_stays (by kernel_rfl) (by kernel_rfl) (by decide +kernel) h1 hsame1 fun p hp => hsp p (by simp [hp])) (trodAll_cons_mk (shut_int (by kernel_rfl) w2) trodAll_mk0))))
    (fun _ _ => rfl) (ok_one (by kernel_rfl) rfl (okWide_bool_mk Try.underlying4 _))⟩
theorem over : Rows.monitorGrowsRow.holds Try.pinned (OpenSpec.ofChange Rows.monitorGrowsSpec) :=
  OpenClaim.holds_of_wide 8 Try.f8 rfl rfl rfl rfl rfl rfl rfl ⟨rfl, rfl, rfl, rfl, rfl⟩ rfl rfl rfl rfl rfl (by kernel_rfl) Try.func8 (by kernel_rfl)
    (of_decide_eq_true (by kernel_rfl)) (by unfold Func.isWrapper; first | (rw [if_pos (by decide +kernel)]; kernel_rfl) | (rw [if_neg (by decide +kernel)]; exact ⟨rfl, rfl⟩))
    (fun os started H enc _ => lifted os started H enc)
theorem proved : Rows.MonitorGrowsSaid :=
  over
end Go.Proofs.Ytngbpmiikpjiaaa.monitorGrows
end
