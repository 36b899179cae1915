/- Lemmas for the statements of this seat: MR24 M1 M2 M3 M4 MR33 MR34 M5 M6 M7 M8 M9. -/
import Derived.Test.YtngbpmiikpjiaaaB2
set_option linter.all false
section
open Go Go.Vm
namespace Go.Proofs.Ytngbpmiikpjiaaa
set_option maxRecDepth 100000
set_option maxHeartbeats 4000000
set_option linter.unusedSimpArgs false
theorem orI_cmp_ne {x y : Int} (l : List Int) (h : (x == y) = false) : decide (orI (cmpI x y :: l) < 0) = decide (x < y) := by
  have := orI_cmp x y l
  simp only [beq_eq_false_iff_ne, ne_eq] at h
  rw [decide_eq_decide, this]
  omega
theorem orI_cmp_eq {x y : Int} (l : List Int) (h : (x == y) = true) : orI (cmpI x y :: l) = orI l := by
  simp only [beq_iff_eq] at h
  rw [orI, if_pos ((cmpI_eq x y).2 h)]
attribute [local irreducible] Tri Does DoesB Rounds check
def inB (n lo hi : Int) : Bool := decide (lo ≤ n) && decide (n ≤ hi)
theorem in_does (n lo hi : Int) : Does Try.prog 83 [.c (.int .i64 n), .c (.int .i64 lo), .c (.int .i64 hi)] (.c (.bool (inB n lo hi))) := by
  refine Does.of_body Try.func83 rfl (by kernel_rfl) rfl rfl (by simp) ?_
  intro E
  unfold inB
  by_cases h1 : lo ≤ n
  · repeat (first
      | (refine Tri.seq fun K hK => ?_)
      | (refine Tri.region ?_; simp [upd, h1])
      | (refine Tri.draw (by kernel_rfl) (by decide +kernel) ?_; simp [upd, h1])
      | (refine Tri.cond_true ?_ ?_; (focus simp [upd, h1]; done))
      | (refine Tri.cond_false ?_ ?_; (focus simp [upd, h1]; done))
      | (refine Tri.skip ?_; simp only [thenS, blockS])
      | (refine Tri.block_seq ?_)
      | (refine Tri.block_region ?_)
      | (refine Tri.block_cond ?_)
      | (refine Tri.exit ?_; simp [upd, h1]; first | (rename ∀ st, Tri _ _ _ st _ → _ => hK; first | (apply hK; clear hK) | (clear hK; rename ∀ st, Tri _ _ _ st _ → _ => hK; first | (apply hK; clear hK) | (clear hK; rename ∀ st, Tri _ _ _ st _ → _ => hK; first | (apply hK; clear hK) | (clear hK; rename ∀ st, Tri _ _ _ st _ → _ => hK; first | (apply hK; clear hK) | (clear hK; rename ∀ st, Tri _ _ _ st _ → _ => hK; first | (apply hK; clear hK) | (clear hK; rename ∀ st, Tri _ _ _ st _ → _ => hK; apply hK; clear hK)))))) | skip)
      | (intro β)
      | (rename ∀ st, Tri _ _ _ st _ → _ => hK; apply hK; clear hK))
    refine Tri.ret ⟨_, rfl, ?_⟩
    simp [upd, h1]
    exact Wk.refl _
  · repeat (first
      | (refine Tri.seq fun K hK => ?_)
      | (refine Tri.region ?_; simp [upd, h1])
      | (refine Tri.draw (by kernel_rfl) (by decide +kernel) ?_; simp [upd, h1])
      | (refine Tri.cond_true ?_ ?_; (focus simp [upd, h1]; done))
      | (refine Tri.cond_false ?_ ?_; (focus simp [upd, h1]; done))
      | (refine Tri.skip ?_; simp only [thenS, blockS])
      | (refine Tri.block_seq ?_)
      | (refine Tri.block_region ?_)
      | (refine Tri.block_cond ?_)
      | (refine Tri.exit ?_; simp [upd, h1]; first | (rename ∀ st, Tri _ _ _ st _ → _ => hK; first | (apply hK; clear hK) | (clear hK; rename ∀ st, Tri _ _ _ st _ → _ => hK; first | (apply hK; clear hK) | (clear hK; rename ∀ st, Tri _ _ _ st _ → _ => hK; first | (apply hK; clear hK) | (clear hK; rename ∀ st, Tri _ _ _ st _ → _ => hK; first | (apply hK; clear hK) | (clear hK; rename ∀ st, Tri _ _ _ st _ → _ => hK; first | (apply hK; clear hK) | (clear hK; rename ∀ st, Tri _ _ _ st _ → _ => hK; apply hK; clear hK)))))) | skip)
      | (intro β)
      | (rename ∀ st, Tri _ _ _ st _ → _ => hK; apply hK; clear hK))
    refine Tri.ret ⟨_, rfl, ?_⟩
    simp [upd, h1]
    exact Wk.refl _
def keysC (a : Att) : List C := [.int .i64 a.slot, .int .i64 a.cslot, .int .i64 a.off, .int .i64 a.frm, .int .i64 a.to, .int .i64 a.flow]
theorem keys_does (a : Att) : Does Try.prog 111 [.agg (attC a)] (.agg (keysC a)) := by
  refine Does.of_body Try.func111 rfl (by kernel_rfl) rfl rfl (by simp) ?_
  intro E
  repeat (first
    | (refine Tri.seq fun K hK => ?_)
    | (refine Tri.region ?_; simp [upd])
    | (refine Tri.draw (by kernel_rfl) (by decide +kernel) ?_; simp [upd])
    | (refine Tri.cond_true ?_ ?_; (focus simp [upd]; done))
    | (refine Tri.cond_false ?_ ?_; (focus simp [upd]; done))
    | (refine Tri.skip ?_; simp only [thenS, blockS])
    | (refine Tri.block_seq ?_)
    | (refine Tri.block_region ?_)
    | (refine Tri.block_cond ?_)
    | (refine Tri.exit ?_; simp [upd]; first | (rename ∀ st, Tri _ _ _ st _ → _ => hK; first | (apply hK; clear hK) | (clear hK; rename ∀ st, Tri _ _ _ st _ → _ => hK; first | (apply hK; clear hK) | (clear hK; rename ∀ st, Tri _ _ _ st _ → _ => hK; first | (apply hK; clear hK) | (clear hK; rename ∀ st, Tri _ _ _ st _ → _ => hK; first | (apply hK; clear hK) | (clear hK; rename ∀ st, Tri _ _ _ st _ → _ => hK; first | (apply hK; clear hK) | (clear hK; rename ∀ st, Tri _ _ _ st _ → _ => hK; apply hK; clear hK)))))) | skip)
    | (intro β)
    | (rename ∀ st, Tri _ _ _ st _ → _ => hK; apply hK; clear hK))
  exact Tri.ret ⟨.agg (keysC a), by simp [upd, keysC], Wk.refl _⟩
theorem less_does (a b : Att) : Does Try.prog 85 [.agg (attC a), .agg (attC b)] (.c (.bool (decide (cmpA a b < 0)))) := by
  refine Does.of_body Try.func85 rfl (by kernel_rfl) rfl rfl (by simp) ?_
  intro E
  have k1 := keys_does a
  have k2 := keys_does b
  unfold cmpA
  simp only [keysC] at k1 k2
  cases e0 : (a.slot == b.slot)
  case false =>
    rw [orI_cmp_ne _ e0]
    repeat (first
      | (refine Tri.seq fun K hK => ?_)
      | (refine Tri.region ?_; simp [upd, e0, bne, orI])
      | (refine Tri.draw (by kernel_rfl) (by decide +kernel) ?_; simp [upd, e0, bne, orI])
      | (refine Tri.draw2 [5, 6] [0, 1, 2, 3] [4, 5, 6, 7] [] (by kernel_rfl) (by kernel_rfl) (by decide) (by rfl) (by decide +kernel) ?_; simp [upd, e0, bne, orI])
      | (refine Tri.cond_true ?_ ?_; (focus simp [upd, e0, bne, orI]; done))
      | (refine Tri.cond_false ?_ ?_; (focus simp [upd, e0, bne, orI]; done))
      | (refine Tri.skip ?_; simp only [thenS, blockS])
      | (refine Tri.block_seq ?_)
      | (refine Tri.block_region ?_)
      | (refine Tri.block_cond ?_)
      | ((with_reducible refine CallK.pure (k1) (Wks.refl _) ?_); simp [upd, e0, bne, orI])
      | ((with_reducible refine CallK.pure (k2) (Wks.refl _) ?_); simp [upd, e0, bne, orI])
      | (refine Tri.block_loop 8 ?_)
      | (refine Rounds.step ?_)
      | (refine Tri.exit ?_; simp [upd, e0, bne, orI]; first | (rename ∀ st, Tri _ _ _ st _ → _ => hK; first | (apply hK; clear hK) | (clear hK; rename ∀ st, Tri _ _ _ st _ → _ => hK; first | (apply hK; clear hK) | (clear hK; rename ∀ st, Tri _ _ _ st _ → _ => hK; first | (apply hK; clear hK) | (clear hK; rename ∀ st, Tri _ _ _ st _ → _ => hK; first | (apply hK; clear hK) | (clear hK; rename ∀ st, Tri _ _ _ st _ → _ => hK; first | (apply hK; clear hK) | (clear hK; rename ∀ st, Tri _ _ _ st _ → _ => hK; apply hK; clear hK)))))) | skip)
      | (intro β)
      | (rename ∀ st, Tri _ _ _ st _ → _ => hK; apply hK; clear hK))
    refine Tri.ret ⟨_, rfl, ?_⟩
    simp [upd]
    exact Wk.refl _
  rw [orI_cmp_eq _ e0]
  cases e1 : (a.cslot == b.cslot)
  case false =>
    rw [orI_cmp_ne _ e1]
    repeat (first
      | (refine Tri.seq fun K hK => ?_)
      | (refine Tri.region ?_; simp [upd, e0, e1, bne, orI])
      | (refine Tri.draw (by kernel_rfl) (by decide +kernel) ?_; simp [upd, e0, e1, bne, orI])
      | (refine Tri.draw2 [5, 6] [0, 1, 2, 3] [4, 5, 6, 7] [] (by kernel_rfl) (by kernel_rfl) (by decide) (by rfl) (by decide +kernel) ?_; simp [upd, e0, e1, bne, orI])
      | (refine Tri.cond_true ?_ ?_; (focus simp [upd, e0, e1, bne, orI]; done))
      | (refine Tri.cond_false ?_ ?_; (focus simp [upd, e0, e1, bne, orI]; done))
      | (refine Tri.skip ?_; simp only [thenS, blockS])
      | (refine Tri.block_seq ?_)
      | (refine Tri.block_region ?_)
      | (refine Tri.block_cond ?_)
      | ((with_reducible refine CallK.pure (k1) (Wks.refl _) ?_); simp [upd, e0, e1, bne, orI])
      | ((with_reducible refine CallK.pure (k2) (Wks.refl _) ?_); simp [upd, e0, e1, bne, orI])
      | (refine Tri.block_loop 8 ?_)
      | (refine Rounds.step ?_)
      | (refine Tri.exit ?_; simp [upd, e0, e1, bne, orI]; first | (rename ∀ st, Tri _ _ _ st _ → _ => hK; first | (apply hK; clear hK) | (clear hK; rename ∀ st, Tri _ _ _ st _ → _ => hK; first | (apply hK; clear hK) | (clear hK; rename ∀ st, Tri _ _ _ st _ → _ => hK; first | (apply hK; clear hK) | (clear hK; rename ∀ st, Tri _ _ _ st _ → _ => hK; first | (apply hK; clear hK) | (clear hK; rename ∀ st, Tri _ _ _ st _ → _ => hK; first | (apply hK; clear hK) | (clear hK; rename ∀ st, Tri _ _ _ st _ → _ => hK; apply hK; clear hK)))))) | skip)
      | (intro β)
      | (rename ∀ st, Tri _ _ _ st _ → _ => hK; apply hK; clear hK))
    refine Tri.ret ⟨_, rfl, ?_⟩
    simp [upd]
    exact Wk.refl _
  rw [orI_cmp_eq _ e1]
  cases e2 : (a.off == b.off)
  case false =>
    rw [orI_cmp_ne _ e2]
    repeat (first
      | (refine Tri.seq fun K hK => ?_)
      | (refine Tri.region ?_; simp [upd, e0, e1, e2, bne, orI])
      | (refine Tri.draw (by kernel_rfl) (by decide +kernel) ?_; simp [upd, e0, e1, e2, bne, orI])
      | (refine Tri.draw2 [5, 6] [0, 1, 2, 3] [4, 5, 6, 7] [] (by kernel_rfl) (by kernel_rfl) (by decide) (by rfl) (by decide +kernel) ?_; simp [upd, e0, e1, e2, bne, orI])
      | (refine Tri.cond_true ?_ ?_; (focus simp [upd, e0, e1, e2, bne, orI]; done))
      | (refine Tri.cond_false ?_ ?_; (focus simp [upd, e0, e1, e2, bne, orI]; done))
      | (refine Tri.skip ?_; simp only [thenS, blockS])
      | (refine Tri.block_seq ?_)
      | (refine Tri.block_region ?_)
      | (refine Tri.block_cond ?_)
      | ((with_reducible refine CallK.pure (k1) (Wks.refl _) ?_); simp [upd, e0, e1, e2, bne, orI])
      | ((with_reducible refine CallK.pure (k2) (Wks.refl _) ?_); simp [upd, e0, e1, e2, bne, orI])
      | (refine Tri.block_loop 8 ?_)
      | (refine Rounds.step ?_)
      | (refine Tri.exit ?_; simp [upd, e0, e1, e2, bne, orI]; first | (rename ∀ st, Tri _ _ _ st _ → _ => hK; first | (apply hK; clear hK) | (clear hK; rename ∀ st, Tri _ _ _ st _ → _ => hK; first | (apply hK; clear hK) | (clear hK; rename ∀ st, Tri _ _ _ st _ → _ => hK; first | (apply hK; clear hK) | (clear hK; rename ∀ st, Tri _ _ _ st _ → _ => hK; first | (apply hK; clear hK) | (clear hK; rename ∀ st, Tri _ _ _ st _ → _ => hK; first | (apply hK; clear hK) | (clear hK; rename ∀ st, Tri _ _ _ st _ → _ => hK; apply hK; clear hK)))))) | skip)
      | (intro β)
      | (rename ∀ st, Tri _ _ _ st _ → _ => hK; apply hK; clear hK))
    refine Tri.ret ⟨_, rfl, ?_⟩
    simp [upd]
    exact Wk.refl _
  rw [orI_cmp_eq _ e2]
  cases e3 : (a.frm == b.frm)
  case false =>
    rw [orI_cmp_ne _ e3]
    repeat (first
      | (refine Tri.seq fun K hK => ?_)
      | (refine Tri.region ?_; simp [upd, e0, e1, e2, e3, bne, orI])
      | (refine Tri.draw (by kernel_rfl) (by decide +kernel) ?_; simp [upd, e0, e1, e2, e3, bne, orI])
      | (refine Tri.draw2 [5, 6] [0, 1, 2, 3] [4, 5, 6, 7] [] (by kernel_rfl) (by kernel_rfl) (by decide) (by rfl) (by decide +kernel) ?_; simp [upd, e0, e1, e2, e3, bne, orI])
      | (refine Tri.cond_true ?_ ?_; (focus simp [upd, e0, e1, e2, e3, bne, orI]; done))
      | (refine Tri.cond_false ?_ ?_; (focus simp [upd, e0, e1, e2, e3, bne, orI]; done))
      | (refine Tri.skip ?_; simp only [thenS, blockS])
      | (refine Tri.block_seq ?_)
      | (refine Tri.block_region ?_)
      | (refine Tri.block_cond ?_)
      | ((with_reducible refine CallK.pure (k1) (Wks.refl _) ?_); simp [upd, e0, e1, e2, e3, bne, orI])
      | ((with_reducible refine CallK.pure (k2) (Wks.refl _) ?_); simp [upd, e0, e1, e2, e3, bne, orI])
      | (refine Tri.block_loop 8 ?_)
      | (refine Rounds.step ?_)
      | (refine Tri.exit ?_; simp [upd, e0, e1, e2, e3, bne, orI]; first | (rename ∀ st, Tri _ _ _ st _ → _ => hK; first | (apply hK; clear hK) | (clear hK; rename ∀ st, Tri _ _ _ st _ → _ => hK; first | (apply hK; clear hK) | (clear hK; rename ∀ st, Tri _ _ _ st _ → _ => hK; first | (apply hK; clear hK) | (clear hK; rename ∀ st, Tri _ _ _ st _ → _ => hK; first | (apply hK; clear hK) | (clear hK; rename ∀ st, Tri _ _ _ st _ → _ => hK; first | (apply hK; clear hK) | (clear hK; rename ∀ st, Tri _ _ _ st _ → _ => hK; apply hK; clear hK)))))) | skip)
      | (intro β)
      | (rename ∀ st, Tri _ _ _ st _ → _ => hK; apply hK; clear hK))
    refine Tri.ret ⟨_, rfl, ?_⟩
    simp [upd]
    exact Wk.refl _
  rw [orI_cmp_eq _ e3]
  cases e4 : (a.to == b.to)
  case false =>
    rw [orI_cmp_ne _ e4]
    repeat (first
      | (refine Tri.seq fun K hK => ?_)
      | (refine Tri.region ?_; simp [upd, e0, e1, e2, e3, e4, bne, orI])
      | (refine Tri.draw (by kernel_rfl) (by decide +kernel) ?_; simp [upd, e0, e1, e2, e3, e4, bne, orI])
      | (refine Tri.draw2 [5, 6] [0, 1, 2, 3] [4, 5, 6, 7] [] (by kernel_rfl) (by kernel_rfl) (by decide) (by rfl) (by decide +kernel) ?_; simp [upd, e0, e1, e2, e3, e4, bne, orI])
      | (refine Tri.cond_true ?_ ?_; (focus simp [upd, e0, e1, e2, e3, e4, bne, orI]; done))
      | (refine Tri.cond_false ?_ ?_; (focus simp [upd, e0, e1, e2, e3, e4, bne, orI]; done))
      | (refine Tri.skip ?_; simp only [thenS, blockS])
      | (refine Tri.block_seq ?_)
      | (refine Tri.block_region ?_)
      | (refine Tri.block_cond ?_)
      | ((with_reducible refine CallK.pure (k1) (Wks.refl _) ?_); simp [upd, e0, e1, e2, e3, e4, bne, orI])
      | ((with_reducible refine CallK.pure (k2) (Wks.refl _) ?_); simp [upd, e0, e1, e2, e3, e4, bne, orI])
      | (refine Tri.block_loop 8 ?_)
      | (refine Rounds.step ?_)
      | (refine Tri.exit ?_; simp [upd, e0, e1, e2, e3, e4, bne, orI]; first | (rename ∀ st, Tri _ _ _ st _ → _ => hK; first | (apply hK; clear hK) | (clear hK; rename ∀ st, Tri _ _ _ st _ → _ => hK; first | (apply hK; clear hK) | (clear hK; rename ∀ st, Tri _ _ _ st _ → _ => hK; first | (apply hK; clear hK) | (clear hK; rename ∀ st, Tri _ _ _ st _ → _ => hK; first | (apply hK; clear hK) | (clear hK; rename ∀ st, Tri _ _ _ st _ → _ => hK; first | (apply hK; clear hK) | (clear hK; rename ∀ st, Tri _ _ _ st _ → _ => hK; apply hK; clear hK)))))) | skip)
      | (intro β)
      | (rename ∀ st, Tri _ _ _ st _ → _ => hK; apply hK; clear hK))
    refine Tri.ret ⟨_, rfl, ?_⟩
    simp [upd]
    exact Wk.refl _
  rw [orI_cmp_eq _ e4]
  cases e5 : (a.flow == b.flow)
  case false =>
    rw [orI_cmp_ne _ e5]
    repeat (first
      | (refine Tri.seq fun K hK => ?_)
      | (refine Tri.region ?_; simp [upd, e0, e1, e2, e3, e4, e5, bne, orI])
      | (refine Tri.draw (by kernel_rfl) (by decide +kernel) ?_; simp [upd, e0, e1, e2, e3, e4, e5, bne, orI])
      | (refine Tri.draw2 [5, 6] [0, 1, 2, 3] [4, 5, 6, 7] [] (by kernel_rfl) (by kernel_rfl) (by decide) (by rfl) (by decide +kernel) ?_; simp [upd, e0, e1, e2, e3, e4, e5, bne, orI])
      | (refine Tri.cond_true ?_ ?_; (focus simp [upd, e0, e1, e2, e3, e4, e5, bne, orI]; done))
      | (refine Tri.cond_false ?_ ?_; (focus simp [upd, e0, e1, e2, e3, e4, e5, bne, orI]; done))
      | (refine Tri.skip ?_; simp only [thenS, blockS])
      | (refine Tri.block_seq ?_)
      | (refine Tri.block_region ?_)
      | (refine Tri.block_cond ?_)
      | ((with_reducible refine CallK.pure (k1) (Wks.refl _) ?_); simp [upd, e0, e1, e2, e3, e4, e5, bne, orI])
      | ((with_reducible refine CallK.pure (k2) (Wks.refl _) ?_); simp [upd, e0, e1, e2, e3, e4, e5, bne, orI])
      | (refine Tri.block_loop 8 ?_)
      | (refine Rounds.step ?_)
      | (refine Tri.exit ?_; simp [upd, e0, e1, e2, e3, e4, e5, bne, orI]; first | (rename ∀ st, Tri _ _ _ st _ → _ => hK; first | (apply hK; clear hK) | (clear hK; rename ∀ st, Tri _ _ _ st _ → _ => hK; first | (apply hK; clear hK) | (clear hK; rename ∀ st, Tri _ _ _ st _ → _ => hK; first | (apply hK; clear hK) | (clear hK; rename ∀ st, Tri _ _ _ st _ → _ => hK; first | (apply hK; clear hK) | (clear hK; rename ∀ st, Tri _ _ _ st _ → _ => hK; first | (apply hK; clear hK) | (clear hK; rename ∀ st, Tri _ _ _ st _ → _ => hK; apply hK; clear hK)))))) | skip)
      | (intro β)
      | (rename ∀ st, Tri _ _ _ st _ → _ => hK; apply hK; clear hK))
    refine Tri.ret ⟨_, rfl, ?_⟩
    simp [upd]
    exact Wk.refl _
  rw [orI_cmp_eq _ e5]
  repeat (first
    | (refine Tri.seq fun K hK => ?_)
    | (refine Tri.region ?_; simp [upd, e0, e1, e2, e3, e4, e5, bne, orI])
    | (refine Tri.draw (by kernel_rfl) (by decide +kernel) ?_; simp [upd, e0, e1, e2, e3, e4, e5, bne, orI])
    | (refine Tri.draw2 [5, 6] [0, 1, 2, 3] [4, 5, 6, 7] [] (by kernel_rfl) (by kernel_rfl) (by decide) (by rfl) (by decide +kernel) ?_; simp [upd, e0, e1, e2, e3, e4, e5, bne, orI])
    | (refine Tri.cond_true ?_ ?_; (focus simp [upd, e0, e1, e2, e3, e4, e5, bne, orI]; done))
    | (refine Tri.cond_false ?_ ?_; (focus simp [upd, e0, e1, e2, e3, e4, e5, bne, orI]; done))
    | (refine Tri.skip ?_; simp only [thenS, blockS])
    | (refine Tri.block_seq ?_)
    | (refine Tri.block_region ?_)
    | (refine Tri.block_cond ?_)
    | ((with_reducible refine CallK.pure (k1) (Wks.refl _) ?_); simp [upd, e0, e1, e2, e3, e4, e5, bne, orI])
    | ((with_reducible refine CallK.pure (k2) (Wks.refl _) ?_); simp [upd, e0, e1, e2, e3, e4, e5, bne, orI])
    | (refine Tri.block_loop 8 ?_)
    | (refine Rounds.step ?_)
    | (refine Tri.exit ?_; simp [upd, e0, e1, e2, e3, e4, e5, bne, orI]; first | (rename ∀ st, Tri _ _ _ st _ → _ => hK; first | (apply hK; clear hK) | (clear hK; rename ∀ st, Tri _ _ _ st _ → _ => hK; first | (apply hK; clear hK) | (clear hK; rename ∀ st, Tri _ _ _ st _ → _ => hK; first | (apply hK; clear hK) | (clear hK; rename ∀ st, Tri _ _ _ st _ → _ => hK; first | (apply hK; clear hK) | (clear hK; rename ∀ st, Tri _ _ _ st _ → _ => hK; first | (apply hK; clear hK) | (clear hK; rename ∀ st, Tri _ _ _ st _ → _ => hK; apply hK; clear hK)))))) | skip)
    | (intro β)
    | (rename ∀ st, Tri _ _ _ st _ → _ => hK; apply hK; clear hK))
  refine Tri.ret ⟨_, rfl, ?_⟩
  simp [upd]
  exact Wk.refl _
end Go.Proofs.Ytngbpmiikpjiaaa
end
section
open Go Go.Vm
namespace Go.Proofs.Ytngbpmiikpjiaaa
set_option maxRecDepth 100000
set_option maxHeartbeats 4000000
set_option linter.unusedSimpArgs false
attribute [local irreducible] Tri Does DoesB Rounds
structure Flo where
  id : Int
  frm : Int
  to : Int
  per : Int
  pha : Int
  dea : Int
@[simp] def floC (f : Flo) : List C := [.int .i64 f.id, .int .i64 f.frm, .int .i64 f.to, .int .i64 f.per, .int .i64 f.pha, .int .i64 f.dea]
def fault (n : Int) (f : Flo) : Int :=
  if f.id < 0 then 2 else if 255 < f.id then 2 else if belowB f.frm n = false then 2 else if belowB f.to n = false then 2
  else if f.per < 1 then 2 else if 512 < f.per then 2 else if f.pha < 0 then 2 else if f.per ≤ f.pha then 2 else if f.dea < 1 then 2 else if f.per < f.dea then 2
  else if f.frm = f.to then 1 else 0
theorem node_does (x n : Int) (b : Nat) : DoesB Try.prog 112 [.c (.int .i64 x), .c (.box 2 b 0)] [(2, b, [.int .i64 n])] [] (fun _ => (.c (.bool (belowB x n)), [(2, b, [.int .i64 n])], [])) := by
  refine DoesB.of_body Try.func112 rfl (by kernel_rfl) rfl rfl (by simp) (fun _ => rfl) fun E => ?_
  by_cases h1 : 0 ≤ x
  · by_cases h2 : x < n
    · rw [show belowB x n = true by simp [belowB, h1, h2]]
      repeat (first
        | (refine Tri.seq fun K hK => ?_)
        | (refine Tri.region ?_; simp [upd, h1, h2])
        | (refine Tri.draw (by kernel_rfl) (by decide +kernel) ?_; simp [upd, h1, h2])
        | (refine Tri.cond_true ?_ ?_; (focus simp [upd, h1, h2]; done))
        | (refine Tri.cond_false ?_ ?_; (focus simp [upd, h1, h2]; done))
        | (refine Tri.skip ?_; simp only [thenS, blockS])
        | (refine Tri.block_seq ?_)
        | (refine Tri.block_region ?_)
        | (refine Tri.block_cond ?_)
        | (refine Tri.exit ?_; simp [upd, h1, h2]; first | (rename ∀ st, Tri _ _ _ st _ → _ => hK; first | (apply hK; clear hK) | (clear hK; rename ∀ st, Tri _ _ _ st _ → _ => hK; first | (apply hK; clear hK) | (clear hK; rename ∀ st, Tri _ _ _ st _ → _ => hK; first | (apply hK; clear hK) | (clear hK; rename ∀ st, Tri _ _ _ st _ → _ => hK; first | (apply hK; clear hK) | (clear hK; rename ∀ st, Tri _ _ _ st _ → _ => hK; first | (apply hK; clear hK) | (clear hK; rename ∀ st, Tri _ _ _ st _ → _ => hK; apply hK; clear hK)))))) | skip)
        | (intro β)
        | (rename ∀ st, Tri _ _ _ st _ → _ => hK; apply hK; clear hK))
      refine Tri.ret ⟨_, 0, [], rfl, ?_, ?_, trivial, by simp⟩
      · simp [upd]
        exact Wk.refl _
      · simp [upd]
    · rw [show belowB x n = false by simp [belowB, h1, h2]]
      repeat (first
        | (refine Tri.seq fun K hK => ?_)
        | (refine Tri.region ?_; simp [upd, h1, h2])
        | (refine Tri.draw (by kernel_rfl) (by decide +kernel) ?_; simp [upd, h1, h2])
        | (refine Tri.cond_true ?_ ?_; (focus simp [upd, h1, h2]; done))
        | (refine Tri.cond_false ?_ ?_; (focus simp [upd, h1, h2]; done))
        | (refine Tri.skip ?_; simp only [thenS, blockS])
        | (refine Tri.block_seq ?_)
        | (refine Tri.block_region ?_)
        | (refine Tri.block_cond ?_)
        | (refine Tri.exit ?_; simp [upd, h1, h2]; first | (rename ∀ st, Tri _ _ _ st _ → _ => hK; first | (apply hK; clear hK) | (clear hK; rename ∀ st, Tri _ _ _ st _ → _ => hK; first | (apply hK; clear hK) | (clear hK; rename ∀ st, Tri _ _ _ st _ → _ => hK; first | (apply hK; clear hK) | (clear hK; rename ∀ st, Tri _ _ _ st _ → _ => hK; first | (apply hK; clear hK) | (clear hK; rename ∀ st, Tri _ _ _ st _ → _ => hK; first | (apply hK; clear hK) | (clear hK; rename ∀ st, Tri _ _ _ st _ → _ => hK; apply hK; clear hK)))))) | skip)
        | (intro β)
        | (rename ∀ st, Tri _ _ _ st _ → _ => hK; apply hK; clear hK))
      refine Tri.ret ⟨_, 0, [], rfl, ?_, ?_, trivial, by simp⟩
      · simp [upd]
        exact Wk.refl _
      · simp [upd]
  · rw [show belowB x n = false by simp [belowB, h1]]
    repeat (first
      | (refine Tri.seq fun K hK => ?_)
      | (refine Tri.region ?_; simp [upd, h1])
      | (refine Tri.draw (by kernel_rfl) (by decide +kernel) ?_; simp [upd, h1])
      | (refine Tri.cond_true ?_ ?_; (focus simp [upd, h1]; done))
      | (refine Tri.cond_false ?_ ?_; (focus simp [upd, h1]; done))
      | (refine Tri.skip ?_; simp only [thenS, blockS])
      | (refine Tri.block_seq ?_)
      | (refine Tri.block_region ?_)
      | (refine Tri.block_cond ?_)
      | (refine Tri.exit ?_; simp [upd, h1]; first | (rename ∀ st, Tri _ _ _ st _ → _ => hK; first | (apply hK; clear hK) | (clear hK; rename ∀ st, Tri _ _ _ st _ → _ => hK; first | (apply hK; clear hK) | (clear hK; rename ∀ st, Tri _ _ _ st _ → _ => hK; first | (apply hK; clear hK) | (clear hK; rename ∀ st, Tri _ _ _ st _ → _ => hK; first | (apply hK; clear hK) | (clear hK; rename ∀ st, Tri _ _ _ st _ → _ => hK; first | (apply hK; clear hK) | (clear hK; rename ∀ st, Tri _ _ _ st _ → _ => hK; apply hK; clear hK)))))) | skip)
      | (intro β)
      | (rename ∀ st, Tri _ _ _ st _ → _ => hK; apply hK; clear hK))
    refine Tri.ret ⟨_, 0, [], rfl, ?_, ?_, trivial, by simp⟩
    · simp [upd]
      exact Wk.refl _
    · simp [upd]
theorem fcheck_does (n : Int) (f : Flo) : Does Try.prog 91 [.c (.int .i64 n), .agg (floC f)] (.c (.int .i64 (fault n f))) := by
  refine Does.of_body Try.func91 rfl (by kernel_rfl) rfl rfl (by simp) ?_
  intro E
  unfold fault
  by_cases g1 : f.id < 0
  · rw [if_pos g1]
    repeat (first
      | (refine Tri.seq fun K hK => ?_)
      | (refine Tri.region ?_; simp [upd, g1])
      | (refine Tri.draw (by kernel_rfl) (by decide +kernel) ?_; simp [upd, g1])
      | (refine Tri.cond_true ?_ ?_; (focus simp [upd, g1]; done))
      | (refine Tri.cond_false ?_ ?_; (focus simp [upd, g1]; done))
      | (refine Tri.skip ?_; simp only [thenS, blockS])
      | (refine Tri.block_seq ?_)
      | (refine Tri.block_region ?_)
      | (refine Tri.block_cond ?_)
      | (refine CallK.look 2 (node_does _ n _) (Wks.refl _) ?_ ?_; (focus (simp [upd]; done)); simp [upd, g1])
      | (refine Tri.exit ?_; simp [upd, g1]; first | (rename ∀ st, Tri _ _ _ st _ → _ => hK; first | (apply hK; clear hK) | (clear hK; rename ∀ st, Tri _ _ _ st _ → _ => hK; first | (apply hK; clear hK) | (clear hK; rename ∀ st, Tri _ _ _ st _ → _ => hK; first | (apply hK; clear hK) | (clear hK; rename ∀ st, Tri _ _ _ st _ → _ => hK; first | (apply hK; clear hK) | (clear hK; rename ∀ st, Tri _ _ _ st _ → _ => hK; first | (apply hK; clear hK) | (clear hK; rename ∀ st, Tri _ _ _ st _ → _ => hK; apply hK; clear hK)))))) | skip)
      | (intro β)
      | (rename ∀ st, Tri _ _ _ st _ → _ => hK; apply hK; clear hK))
    refine Tri.ret ⟨_, rfl, ?_⟩
    simp [upd]
    exact Wk.refl _
  rw [if_neg g1]
  by_cases g2 : 255 < f.id
  · rw [if_pos g2]
    repeat (first
      | (refine Tri.seq fun K hK => ?_)
      | (refine Tri.region ?_; simp [upd, g1, g2])
      | (refine Tri.draw (by kernel_rfl) (by decide +kernel) ?_; simp [upd, g1, g2])
      | (refine Tri.cond_true ?_ ?_; (focus simp [upd, g1, g2]; done))
      | (refine Tri.cond_false ?_ ?_; (focus simp [upd, g1, g2]; done))
      | (refine Tri.skip ?_; simp only [thenS, blockS])
      | (refine Tri.block_seq ?_)
      | (refine Tri.block_region ?_)
      | (refine Tri.block_cond ?_)
      | (refine CallK.look 2 (node_does _ n _) (Wks.refl _) ?_ ?_; (focus (simp [upd]; done)); simp [upd, g1, g2])
      | (refine Tri.exit ?_; simp [upd, g1, g2]; first | (rename ∀ st, Tri _ _ _ st _ → _ => hK; first | (apply hK; clear hK) | (clear hK; rename ∀ st, Tri _ _ _ st _ → _ => hK; first | (apply hK; clear hK) | (clear hK; rename ∀ st, Tri _ _ _ st _ → _ => hK; first | (apply hK; clear hK) | (clear hK; rename ∀ st, Tri _ _ _ st _ → _ => hK; first | (apply hK; clear hK) | (clear hK; rename ∀ st, Tri _ _ _ st _ → _ => hK; first | (apply hK; clear hK) | (clear hK; rename ∀ st, Tri _ _ _ st _ → _ => hK; apply hK; clear hK)))))) | skip)
      | (intro β)
      | (rename ∀ st, Tri _ _ _ st _ → _ => hK; apply hK; clear hK))
    refine Tri.ret ⟨_, rfl, ?_⟩
    simp [upd]
    exact Wk.refl _
  rw [if_neg g2]
  cases g3 : belowB f.frm n
  case false =>
    rw [if_pos rfl]
    repeat (first
      | (refine Tri.seq fun K hK => ?_)
      | (refine Tri.region ?_; simp [upd, g1, g2, g3])
      | (refine Tri.draw (by kernel_rfl) (by decide +kernel) ?_; simp [upd, g1, g2, g3])
      | (refine Tri.cond_true ?_ ?_; (focus simp [upd, g1, g2, g3]; done))
      | (refine Tri.cond_false ?_ ?_; (focus simp [upd, g1, g2, g3]; done))
      | (refine Tri.skip ?_; simp only [thenS, blockS])
      | (refine Tri.block_seq ?_)
      | (refine Tri.block_region ?_)
      | (refine Tri.block_cond ?_)
      | (refine CallK.look 2 (node_does _ n _) (Wks.refl _) ?_ ?_; (focus (simp [upd]; done)); simp [upd, g1, g2, g3])
      | (refine Tri.exit ?_; simp [upd, g1, g2, g3]; first | (rename ∀ st, Tri _ _ _ st _ → _ => hK; first | (apply hK; clear hK) | (clear hK; rename ∀ st, Tri _ _ _ st _ → _ => hK; first | (apply hK; clear hK) | (clear hK; rename ∀ st, Tri _ _ _ st _ → _ => hK; first | (apply hK; clear hK) | (clear hK; rename ∀ st, Tri _ _ _ st _ → _ => hK; first | (apply hK; clear hK) | (clear hK; rename ∀ st, Tri _ _ _ st _ → _ => hK; first | (apply hK; clear hK) | (clear hK; rename ∀ st, Tri _ _ _ st _ → _ => hK; apply hK; clear hK)))))) | skip)
      | (intro β)
      | (rename ∀ st, Tri _ _ _ st _ → _ => hK; apply hK; clear hK))
    refine Tri.ret ⟨_, rfl, ?_⟩
    simp [upd]
    exact Wk.refl _
  rw [if_neg (by simp)]
  cases g4 : belowB f.to n
  case false =>
    rw [if_pos rfl]
    repeat (first
      | (refine Tri.seq fun K hK => ?_)
      | (refine Tri.region ?_; simp [upd, g1, g2, g3, g4])
      | (refine Tri.draw (by kernel_rfl) (by decide +kernel) ?_; simp [upd, g1, g2, g3, g4])
      | (refine Tri.cond_true ?_ ?_; (focus simp [upd, g1, g2, g3, g4]; done))
      | (refine Tri.cond_false ?_ ?_; (focus simp [upd, g1, g2, g3, g4]; done))
      | (refine Tri.skip ?_; simp only [thenS, blockS])
      | (refine Tri.block_seq ?_)
      | (refine Tri.block_region ?_)
      | (refine Tri.block_cond ?_)
      | (refine CallK.look 2 (node_does _ n _) (Wks.refl _) ?_ ?_; (focus (simp [upd]; done)); simp [upd, g1, g2, g3, g4])
      | (refine Tri.exit ?_; simp [upd, g1, g2, g3, g4]; first | (rename ∀ st, Tri _ _ _ st _ → _ => hK; first | (apply hK; clear hK) | (clear hK; rename ∀ st, Tri _ _ _ st _ → _ => hK; first | (apply hK; clear hK) | (clear hK; rename ∀ st, Tri _ _ _ st _ → _ => hK; first | (apply hK; clear hK) | (clear hK; rename ∀ st, Tri _ _ _ st _ → _ => hK; first | (apply hK; clear hK) | (clear hK; rename ∀ st, Tri _ _ _ st _ → _ => hK; first | (apply hK; clear hK) | (clear hK; rename ∀ st, Tri _ _ _ st _ → _ => hK; apply hK; clear hK)))))) | skip)
      | (intro β)
      | (rename ∀ st, Tri _ _ _ st _ → _ => hK; apply hK; clear hK))
    refine Tri.ret ⟨_, rfl, ?_⟩
    simp [upd]
    exact Wk.refl _
  rw [if_neg (by simp)]
  by_cases g5 : f.per < 1
  · rw [if_pos g5]
    repeat (first
      | (refine Tri.seq fun K hK => ?_)
      | (refine Tri.region ?_; simp [upd, g1, g2, g3, g4, g5])
      | (refine Tri.draw (by kernel_rfl) (by decide +kernel) ?_; simp [upd, g1, g2, g3, g4, g5])
      | (refine Tri.cond_true ?_ ?_; (focus simp [upd, g1, g2, g3, g4, g5]; done))
      | (refine Tri.cond_false ?_ ?_; (focus simp [upd, g1, g2, g3, g4, g5]; done))
      | (refine Tri.skip ?_; simp only [thenS, blockS])
      | (refine Tri.block_seq ?_)
      | (refine Tri.block_region ?_)
      | (refine Tri.block_cond ?_)
      | (refine CallK.look 2 (node_does _ n _) (Wks.refl _) ?_ ?_; (focus (simp [upd]; done)); simp [upd, g1, g2, g3, g4, g5])
      | (refine Tri.exit ?_; simp [upd, g1, g2, g3, g4, g5]; first | (rename ∀ st, Tri _ _ _ st _ → _ => hK; first | (apply hK; clear hK) | (clear hK; rename ∀ st, Tri _ _ _ st _ → _ => hK; first | (apply hK; clear hK) | (clear hK; rename ∀ st, Tri _ _ _ st _ → _ => hK; first | (apply hK; clear hK) | (clear hK; rename ∀ st, Tri _ _ _ st _ → _ => hK; first | (apply hK; clear hK) | (clear hK; rename ∀ st, Tri _ _ _ st _ → _ => hK; first | (apply hK; clear hK) | (clear hK; rename ∀ st, Tri _ _ _ st _ → _ => hK; apply hK; clear hK)))))) | skip)
      | (intro β)
      | (rename ∀ st, Tri _ _ _ st _ → _ => hK; apply hK; clear hK))
    refine Tri.ret ⟨_, rfl, ?_⟩
    simp [upd]
    exact Wk.refl _
  rw [if_neg g5]
  by_cases g6 : 512 < f.per
  · rw [if_pos g6]
    repeat (first
      | (refine Tri.seq fun K hK => ?_)
      | (refine Tri.region ?_; simp [upd, g1, g2, g3, g4, g5, g6])
      | (refine Tri.draw (by kernel_rfl) (by decide +kernel) ?_; simp [upd, g1, g2, g3, g4, g5, g6])
      | (refine Tri.cond_true ?_ ?_; (focus simp [upd, g1, g2, g3, g4, g5, g6]; done))
      | (refine Tri.cond_false ?_ ?_; (focus simp [upd, g1, g2, g3, g4, g5, g6]; done))
      | (refine Tri.skip ?_; simp only [thenS, blockS])
      | (refine Tri.block_seq ?_)
      | (refine Tri.block_region ?_)
      | (refine Tri.block_cond ?_)
      | (refine CallK.look 2 (node_does _ n _) (Wks.refl _) ?_ ?_; (focus (simp [upd]; done)); simp [upd, g1, g2, g3, g4, g5, g6])
      | (refine Tri.exit ?_; simp [upd, g1, g2, g3, g4, g5, g6]; first | (rename ∀ st, Tri _ _ _ st _ → _ => hK; first | (apply hK; clear hK) | (clear hK; rename ∀ st, Tri _ _ _ st _ → _ => hK; first | (apply hK; clear hK) | (clear hK; rename ∀ st, Tri _ _ _ st _ → _ => hK; first | (apply hK; clear hK) | (clear hK; rename ∀ st, Tri _ _ _ st _ → _ => hK; first | (apply hK; clear hK) | (clear hK; rename ∀ st, Tri _ _ _ st _ → _ => hK; first | (apply hK; clear hK) | (clear hK; rename ∀ st, Tri _ _ _ st _ → _ => hK; apply hK; clear hK)))))) | skip)
      | (intro β)
      | (rename ∀ st, Tri _ _ _ st _ → _ => hK; apply hK; clear hK))
    refine Tri.ret ⟨_, rfl, ?_⟩
    simp [upd]
    exact Wk.refl _
  rw [if_neg g6]
  by_cases g7 : f.pha < 0
  · rw [if_pos g7]
    repeat (first
      | (refine Tri.seq fun K hK => ?_)
      | (refine Tri.region ?_; simp [upd, g1, g2, g3, g4, g5, g6, g7])
      | (refine Tri.draw (by kernel_rfl) (by decide +kernel) ?_; simp [upd, g1, g2, g3, g4, g5, g6, g7])
      | (refine Tri.cond_true ?_ ?_; (focus simp [upd, g1, g2, g3, g4, g5, g6, g7]; done))
      | (refine Tri.cond_false ?_ ?_; (focus simp [upd, g1, g2, g3, g4, g5, g6, g7]; done))
      | (refine Tri.skip ?_; simp only [thenS, blockS])
      | (refine Tri.block_seq ?_)
      | (refine Tri.block_region ?_)
      | (refine Tri.block_cond ?_)
      | (refine CallK.look 2 (node_does _ n _) (Wks.refl _) ?_ ?_; (focus (simp [upd]; done)); simp [upd, g1, g2, g3, g4, g5, g6, g7])
      | (refine Tri.exit ?_; simp [upd, g1, g2, g3, g4, g5, g6, g7]; first | (rename ∀ st, Tri _ _ _ st _ → _ => hK; first | (apply hK; clear hK) | (clear hK; rename ∀ st, Tri _ _ _ st _ → _ => hK; first | (apply hK; clear hK) | (clear hK; rename ∀ st, Tri _ _ _ st _ → _ => hK; first | (apply hK; clear hK) | (clear hK; rename ∀ st, Tri _ _ _ st _ → _ => hK; first | (apply hK; clear hK) | (clear hK; rename ∀ st, Tri _ _ _ st _ → _ => hK; first | (apply hK; clear hK) | (clear hK; rename ∀ st, Tri _ _ _ st _ → _ => hK; apply hK; clear hK)))))) | skip)
      | (intro β)
      | (rename ∀ st, Tri _ _ _ st _ → _ => hK; apply hK; clear hK))
    refine Tri.ret ⟨_, rfl, ?_⟩
    simp [upd]
    exact Wk.refl _
  rw [if_neg g7]
  by_cases g8 : f.per ≤ f.pha
  · rw [if_pos g8]
    repeat (first
      | (refine Tri.seq fun K hK => ?_)
      | (refine Tri.region ?_; simp [upd, g1, g2, g3, g4, g5, g6, g7, g8])
      | (refine Tri.draw (by kernel_rfl) (by decide +kernel) ?_; simp [upd, g1, g2, g3, g4, g5, g6, g7, g8])
      | (refine Tri.cond_true ?_ ?_; (focus simp [upd, g1, g2, g3, g4, g5, g6, g7, g8]; done))
      | (refine Tri.cond_false ?_ ?_; (focus simp [upd, g1, g2, g3, g4, g5, g6, g7, g8]; done))
      | (refine Tri.skip ?_; simp only [thenS, blockS])
      | (refine Tri.block_seq ?_)
      | (refine Tri.block_region ?_)
      | (refine Tri.block_cond ?_)
      | (refine CallK.look 2 (node_does _ n _) (Wks.refl _) ?_ ?_; (focus (simp [upd]; done)); simp [upd, g1, g2, g3, g4, g5, g6, g7, g8])
      | (refine Tri.exit ?_; simp [upd, g1, g2, g3, g4, g5, g6, g7, g8]; first | (rename ∀ st, Tri _ _ _ st _ → _ => hK; first | (apply hK; clear hK) | (clear hK; rename ∀ st, Tri _ _ _ st _ → _ => hK; first | (apply hK; clear hK) | (clear hK; rename ∀ st, Tri _ _ _ st _ → _ => hK; first | (apply hK; clear hK) | (clear hK; rename ∀ st, Tri _ _ _ st _ → _ => hK; first | (apply hK; clear hK) | (clear hK; rename ∀ st, Tri _ _ _ st _ → _ => hK; first | (apply hK; clear hK) | (clear hK; rename ∀ st, Tri _ _ _ st _ → _ => hK; apply hK; clear hK)))))) | skip)
      | (intro β)
      | (rename ∀ st, Tri _ _ _ st _ → _ => hK; apply hK; clear hK))
    refine Tri.ret ⟨_, rfl, ?_⟩
    simp [upd]
    exact Wk.refl _
  rw [if_neg g8]
  by_cases g9 : f.dea < 1
  · rw [if_pos g9]
    repeat (first
      | (refine Tri.seq fun K hK => ?_)
      | (refine Tri.region ?_; simp [upd, g1, g2, g3, g4, g5, g6, g7, g8, g9])
      | (refine Tri.draw (by kernel_rfl) (by decide +kernel) ?_; simp [upd, g1, g2, g3, g4, g5, g6, g7, g8, g9])
      | (refine Tri.cond_true ?_ ?_; (focus simp [upd, g1, g2, g3, g4, g5, g6, g7, g8, g9]; done))
      | (refine Tri.cond_false ?_ ?_; (focus simp [upd, g1, g2, g3, g4, g5, g6, g7, g8, g9]; done))
      | (refine Tri.skip ?_; simp only [thenS, blockS])
      | (refine Tri.block_seq ?_)
      | (refine Tri.block_region ?_)
      | (refine Tri.block_cond ?_)
      | (refine CallK.look 2 (node_does _ n _) (Wks.refl _) ?_ ?_; (focus (simp [upd]; done)); simp [upd, g1, g2, g3, g4, g5, g6, g7, g8, g9])
      | (refine Tri.exit ?_; simp [upd, g1, g2, g3, g4, g5, g6, g7, g8, g9]; first | (rename ∀ st, Tri _ _ _ st _ → _ => hK; first | (apply hK; clear hK) | (clear hK; rename ∀ st, Tri _ _ _ st _ → _ => hK; first | (apply hK; clear hK) | (clear hK; rename ∀ st, Tri _ _ _ st _ → _ => hK; first | (apply hK; clear hK) | (clear hK; rename ∀ st, Tri _ _ _ st _ → _ => hK; first | (apply hK; clear hK) | (clear hK; rename ∀ st, Tri _ _ _ st _ → _ => hK; first | (apply hK; clear hK) | (clear hK; rename ∀ st, Tri _ _ _ st _ → _ => hK; apply hK; clear hK)))))) | skip)
      | (intro β)
      | (rename ∀ st, Tri _ _ _ st _ → _ => hK; apply hK; clear hK))
    refine Tri.ret ⟨_, rfl, ?_⟩
    simp [upd]
    exact Wk.refl _
  rw [if_neg g9]
  by_cases g10 : f.per < f.dea
  · rw [if_pos g10]
    repeat (first
      | (refine Tri.seq fun K hK => ?_)
      | (refine Tri.region ?_; simp [upd, g1, g2, g3, g4, g5, g6, g7, g8, g9, g10])
      | (refine Tri.draw (by kernel_rfl) (by decide +kernel) ?_; simp [upd, g1, g2, g3, g4, g5, g6, g7, g8, g9, g10])
      | (refine Tri.cond_true ?_ ?_; (focus simp [upd, g1, g2, g3, g4, g5, g6, g7, g8, g9, g10]; done))
      | (refine Tri.cond_false ?_ ?_; (focus simp [upd, g1, g2, g3, g4, g5, g6, g7, g8, g9, g10]; done))
      | (refine Tri.skip ?_; simp only [thenS, blockS])
      | (refine Tri.block_seq ?_)
      | (refine Tri.block_region ?_)
      | (refine Tri.block_cond ?_)
      | (refine CallK.look 2 (node_does _ n _) (Wks.refl _) ?_ ?_; (focus (simp [upd]; done)); simp [upd, g1, g2, g3, g4, g5, g6, g7, g8, g9, g10])
      | (refine Tri.exit ?_; simp [upd, g1, g2, g3, g4, g5, g6, g7, g8, g9, g10]; first | (rename ∀ st, Tri _ _ _ st _ → _ => hK; first | (apply hK; clear hK) | (clear hK; rename ∀ st, Tri _ _ _ st _ → _ => hK; first | (apply hK; clear hK) | (clear hK; rename ∀ st, Tri _ _ _ st _ → _ => hK; first | (apply hK; clear hK) | (clear hK; rename ∀ st, Tri _ _ _ st _ → _ => hK; first | (apply hK; clear hK) | (clear hK; rename ∀ st, Tri _ _ _ st _ → _ => hK; first | (apply hK; clear hK) | (clear hK; rename ∀ st, Tri _ _ _ st _ → _ => hK; apply hK; clear hK)))))) | skip)
      | (intro β)
      | (rename ∀ st, Tri _ _ _ st _ → _ => hK; apply hK; clear hK))
    refine Tri.ret ⟨_, rfl, ?_⟩
    simp [upd]
    exact Wk.refl _
  rw [if_neg g10]
  cases g11 : (f.frm == f.to)
  case true =>
    rw [if_pos (by simpa using g11)]
    repeat (first
      | (refine Tri.seq fun K hK => ?_)
      | (refine Tri.region ?_; simp [upd, g1, g2, g3, g4, g5, g6, g7, g8, g9, g10, g11])
      | (refine Tri.draw (by kernel_rfl) (by decide +kernel) ?_; simp [upd, g1, g2, g3, g4, g5, g6, g7, g8, g9, g10, g11])
      | (refine Tri.cond_true ?_ ?_; (focus simp [upd, g1, g2, g3, g4, g5, g6, g7, g8, g9, g10, g11]; done))
      | (refine Tri.cond_false ?_ ?_; (focus simp [upd, g1, g2, g3, g4, g5, g6, g7, g8, g9, g10, g11]; done))
      | (refine Tri.skip ?_; simp only [thenS, blockS])
      | (refine Tri.block_seq ?_)
      | (refine Tri.block_region ?_)
      | (refine Tri.block_cond ?_)
      | (refine CallK.look 2 (node_does _ n _) (Wks.refl _) ?_ ?_; (focus (simp [upd]; done)); simp [upd, g1, g2, g3, g4, g5, g6, g7, g8, g9, g10, g11])
      | (refine Tri.exit ?_; simp [upd, g1, g2, g3, g4, g5, g6, g7, g8, g9, g10, g11]; first | (rename ∀ st, Tri _ _ _ st _ → _ => hK; first | (apply hK; clear hK) | (clear hK; rename ∀ st, Tri _ _ _ st _ → _ => hK; first | (apply hK; clear hK) | (clear hK; rename ∀ st, Tri _ _ _ st _ → _ => hK; first | (apply hK; clear hK) | (clear hK; rename ∀ st, Tri _ _ _ st _ → _ => hK; first | (apply hK; clear hK) | (clear hK; rename ∀ st, Tri _ _ _ st _ → _ => hK; first | (apply hK; clear hK) | (clear hK; rename ∀ st, Tri _ _ _ st _ → _ => hK; apply hK; clear hK)))))) | skip)
      | (intro β)
      | (rename ∀ st, Tri _ _ _ st _ → _ => hK; apply hK; clear hK))
    refine Tri.ret ⟨_, rfl, ?_⟩
    simp [upd]
    exact Wk.refl _
  rw [if_neg (by simpa using g11)]
  repeat (first
    | (refine Tri.seq fun K hK => ?_)
    | (refine Tri.region ?_; simp [upd, g1, g2, g3, g4, g5, g6, g7, g8, g9, g10, g11])
    | (refine Tri.draw (by kernel_rfl) (by decide +kernel) ?_; simp [upd, g1, g2, g3, g4, g5, g6, g7, g8, g9, g10, g11])
    | (refine Tri.cond_true ?_ ?_; (focus simp [upd, g1, g2, g3, g4, g5, g6, g7, g8, g9, g10, g11]; done))
    | (refine Tri.cond_false ?_ ?_; (focus simp [upd, g1, g2, g3, g4, g5, g6, g7, g8, g9, g10, g11]; done))
    | (refine Tri.skip ?_; simp only [thenS, blockS])
    | (refine Tri.block_seq ?_)
    | (refine Tri.block_region ?_)
    | (refine Tri.block_cond ?_)
    | (refine CallK.look 2 (node_does _ n _) (Wks.refl _) ?_ ?_; (focus (simp [upd]; done)); simp [upd, g1, g2, g3, g4, g5, g6, g7, g8, g9, g10, g11])
    | (refine Tri.exit ?_; simp [upd, g1, g2, g3, g4, g5, g6, g7, g8, g9, g10, g11]; first | (rename ∀ st, Tri _ _ _ st _ → _ => hK; first | (apply hK; clear hK) | (clear hK; rename ∀ st, Tri _ _ _ st _ → _ => hK; first | (apply hK; clear hK) | (clear hK; rename ∀ st, Tri _ _ _ st _ → _ => hK; first | (apply hK; clear hK) | (clear hK; rename ∀ st, Tri _ _ _ st _ → _ => hK; first | (apply hK; clear hK) | (clear hK; rename ∀ st, Tri _ _ _ st _ → _ => hK; first | (apply hK; clear hK) | (clear hK; rename ∀ st, Tri _ _ _ st _ → _ => hK; apply hK; clear hK)))))) | skip)
    | (intro β)
    | (rename ∀ st, Tri _ _ _ st _ → _ => hK; apply hK; clear hK))
  refine Tri.ret ⟨_, rfl, ?_⟩
  simp [upd]
  exact Wk.refl _
theorem alone_does (f : Flo) : Does Try.prog 88 [.agg (floC f)] (.c (.int .i64 (fault 32 f))) := by
  refine Does.of_body Try.func88 rfl (by kernel_rfl) rfl rfl (by simp) ?_
  intro E
  repeat (first
    | (refine Tri.seq fun K hK => ?_)
    | (refine Tri.region ?_; simp [upd])
    | (refine Tri.draw (by kernel_rfl) (by decide +kernel) ?_; simp [upd])
    | (refine Tri.cond_true ?_ ?_; (focus simp [upd]; done))
    | (refine Tri.cond_false ?_ ?_; (focus simp [upd]; done))
    | (refine Tri.skip ?_; simp only [thenS, blockS])
    | (refine Tri.block_seq ?_)
    | (refine Tri.block_region ?_)
    | (refine Tri.block_cond ?_)
    | ((with_reducible refine CallK.pure (fcheck_does _ _) (Wks.refl _) ?_); simp [upd])
    | (refine Tri.exit ?_; simp [upd]; first | (rename ∀ st, Tri _ _ _ st _ → _ => hK; first | (apply hK; clear hK) | (clear hK; rename ∀ st, Tri _ _ _ st _ → _ => hK; first | (apply hK; clear hK) | (clear hK; rename ∀ st, Tri _ _ _ st _ → _ => hK; first | (apply hK; clear hK) | (clear hK; rename ∀ st, Tri _ _ _ st _ → _ => hK; first | (apply hK; clear hK) | (clear hK; rename ∀ st, Tri _ _ _ st _ → _ => hK; first | (apply hK; clear hK) | (clear hK; rename ∀ st, Tri _ _ _ st _ → _ => hK; apply hK; clear hK)))))) | skip)
    | (intro β)
    | (rename ∀ st, Tri _ _ _ st _ → _ => hK; apply hK; clear hK))
  refine Tri.ret ⟨_, rfl, ?_⟩
  simp [upd]
  exact Wk.refl _
end Go.Proofs.Ytngbpmiikpjiaaa
end
section
open Go Go.Vm
namespace Go.Proofs.Ytngbpmiikpjiaaa
set_option maxRecDepth 100000
set_option maxHeartbeats 4000000
set_option linter.unusedSimpArgs false
structure FloP (n : Int) (f : Flo) : Prop where
  i0 : 0 ≤ f.id
  i1 : f.id ≤ 255
  f0 : belowB f.frm n = true
  t0 : belowB f.to n = true
  p1 : 1 ≤ f.per
  p2 : f.per ≤ 512
  h0 : 0 ≤ f.pha
  h1 : f.pha < f.per
  d1 : 1 ≤ f.dea
  d2 : f.dea ≤ f.per
  ne : f.frm ≠ f.to
theorem fault_ok {n : Int} {f : Flo} (h : fault n f = 0) : FloP n f := by
  unfold fault at h
  split at h; · omega
  split at h; · omega
  split at h; · omega
  split at h; · omega
  split at h; · omega
  split at h; · omega
  split at h; · omega
  split at h; · omega
  split at h; · omega
  split at h; · omega
  split at h; · omega
  rename_i g1 g2 g3 g4 g5 g6 g7 g8 g9 g10 g11
  exact ⟨by omega, by omega, by simpa using g3, by simpa using g4, by omega, by omega, by omega, by omega, by omega, by omega, g11⟩
theorem rel_lo {f : Flo} {k : Int} (h : FloP 32 f) (h0 : 0 ≤ k) (h1 : k ≤ 1048576) : 0 ≤ k * f.per ∧ k * f.per ≤ 536870912 := by
  obtain ⟨-, -, -, -, p1, p2, -⟩ := h
  constructor
  · exact Int.mul_nonneg h0 (by omega)
  · have : k * f.per ≤ 1048576 * 512 := Int.mul_le_mul h1 p2 (by omega) (by omega)
    omega
/-- The slot in which a frame is released. -/
def relI (f : Flo) (k : Int) : Int := f.pha + k * f.per
theorem relI_b {f : Flo} {k : Int} (h : FloP 32 f) (h0 : 0 ≤ k) (h1 : k ≤ 1048576) : 0 ≤ relI f k ∧ relI f k ≤ 536871424 := by
  have := rel_lo h h0 h1
  have a := h.h0
  have b := h.h1
  have c := h.p2
  unfold relI
  omega
attribute [local irreducible] Tri Does DoesB Rounds check fault
theorem release_does (f : Flo) (k : Int) (h : fault 32 f = 0) (h0 : 0 ≤ k) (h1 : k ≤ 1048576) : Does Try.prog 68 [.agg (floC f), .c (.int .i64 k)] (.tup [.c (.int .i64 (relI f k)), .c (.int .i64 0)]) := by
  refine Does.of_body Try.func68 rfl (by kernel_rfl) rfl rfl (by simp) ?_
  intro E
  have hp := fault_ok h
  have a1 := rel_lo hp h0 h1
  have a2 := relI_b hp h0 h1
  unfold relI at a2 ⊢
  have w1 : IntKind.i64.wrap (k * f.per) = k * f.per := wrap_i64 (by omega) (by omega)
  have w2 : IntKind.i64.wrap (f.pha + k * f.per) = f.pha + k * f.per := wrap_i64 (by omega) (by omega)
  have g1 : ¬ k < 0 := by omega
  have g2 : ¬ 1099511627776 < k := by omega
  have g3 : ¬ 1099511627776 < f.pha + k * f.per := by omega
  have hl := alone_does f
  rw [h] at hl
  repeat (first
    | (refine Tri.seq fun K hK => ?_)
    | (refine Tri.region ?_; simp [upd, w1, w2, g1, g2, g3])
    | (refine Tri.draw (by kernel_rfl) (by decide +kernel) ?_; simp [upd, w1, w2, g1, g2, g3])
    | (refine Tri.cond_true ?_ ?_; (focus simp [upd, w1, w2, g1, g2, g3]; done))
    | (refine Tri.cond_false ?_ ?_; (focus simp [upd, w1, w2, g1, g2, g3]; done))
    | (refine Tri.skip ?_; simp only [thenS, blockS])
    | (refine Tri.block_seq ?_)
    | (refine Tri.block_region ?_)
    | (refine Tri.block_cond ?_)
    | ((with_reducible refine CallK.pure (hl) (Wks.refl _) ?_); simp [upd, w1, w2, g1, g2, g3])
    | (refine Tri.exit ?_; simp [upd, w1, w2, g1, g2, g3]; first | (rename ∀ st, Tri _ _ _ st _ → _ => hK; first | (apply hK; clear hK) | (clear hK; rename ∀ st, Tri _ _ _ st _ → _ => hK; first | (apply hK; clear hK) | (clear hK; rename ∀ st, Tri _ _ _ st _ → _ => hK; first | (apply hK; clear hK) | (clear hK; rename ∀ st, Tri _ _ _ st _ → _ => hK; first | (apply hK; clear hK) | (clear hK; rename ∀ st, Tri _ _ _ st _ → _ => hK; first | (apply hK; clear hK) | (clear hK; rename ∀ st, Tri _ _ _ st _ → _ => hK; apply hK; clear hK)))))) | skip)
    | (intro β)
    | (rename ∀ st, Tri _ _ _ st _ → _ => hK; apply hK; clear hK))
  refine Tri.ret ⟨_, rfl, ?_⟩
  simp [upd]
  exact Wk.refl _
theorem window_does (f : Flo) (k : Int) (h : fault 32 f = 0) (h0 : 0 ≤ k) (h1 : k ≤ 1048576) : Does Try.prog 37 [.agg (floC f), .c (.int .i64 k)] (.tup [.c (.int .i64 (relI f k)), .c (.int .i64 (relI f k + f.per - 1)), .c (.int .i64 0)]) := by
  refine Does.of_body Try.func37 rfl (by kernel_rfl) rfl rfl (by simp) ?_
  intro E
  have hp := fault_ok h
  have a2 := relI_b hp h0 h1
  have a3 := hp.p2
  have a4 := hp.p1
  have hr := release_does f k h h0 h1
  generalize relI f k = r at *
  have w1 : IntKind.i64.wrap (r + f.per) = r + f.per := wrap_i64 (by omega) (by omega)
  have w2 : IntKind.i64.wrap (r + f.per - 1) = r + f.per - 1 := wrap_i64 (by omega) (by omega)
  repeat (first
    | (refine Tri.seq fun K hK => ?_)
    | (refine Tri.region ?_; simp [upd, w1, w2])
    | (refine Tri.draw (by kernel_rfl) (by decide +kernel) ?_; simp [upd, w1, w2])
    | (refine Tri.draw2 [] [0, 1, 2, 3, 4, 5, 6, 7, 8] [] [] (by kernel_rfl) (by kernel_rfl) (by decide) (by rfl) (by decide +kernel) ?_; simp [upd, w1, w2])
    | (refine Tri.draw2 [] [0, 1, 2, 3, 4, 5] [6, 7, 8] [] (by kernel_rfl) (by kernel_rfl) (by decide) (by rfl) (by decide +kernel) ?_; simp [upd, w1, w2])
    | (refine Tri.cond_true ?_ ?_; (focus simp [upd, w1, w2]; done))
    | (refine Tri.cond_false ?_ ?_; (focus simp [upd, w1, w2]; done))
    | (refine Tri.skip ?_; simp only [thenS, blockS])
    | (refine Tri.block_seq ?_)
    | (refine Tri.block_region ?_)
    | (refine Tri.block_cond ?_)
    | ((with_reducible refine CallK.pure (hr) (Wks.refl _) ?_); simp [upd, w1, w2])
    | (refine Tri.exit ?_; simp [upd, w1, w2]; first | (rename ∀ st, Tri _ _ _ st _ → _ => hK; first | (apply hK; clear hK) | (clear hK; rename ∀ st, Tri _ _ _ st _ → _ => hK; first | (apply hK; clear hK) | (clear hK; rename ∀ st, Tri _ _ _ st _ → _ => hK; first | (apply hK; clear hK) | (clear hK; rename ∀ st, Tri _ _ _ st _ → _ => hK; first | (apply hK; clear hK) | (clear hK; rename ∀ st, Tri _ _ _ st _ → _ => hK; first | (apply hK; clear hK) | (clear hK; rename ∀ st, Tri _ _ _ st _ → _ => hK; apply hK; clear hK)))))) | skip)
    | (intro β)
    | (rename ∀ st, Tri _ _ _ st _ → _ => hK; apply hK; clear hK))
  refine Tri.ret ⟨_, rfl, ?_⟩
  simp [upd]
  exact Wk.refl _
theorem due_does (f : Flo) (k : Int) (h : fault 32 f = 0) (h0 : 0 ≤ k) (h1 : k ≤ 1048576) : Does Try.prog 70 [.agg (floC f), .c (.int .i64 k)] (.tup [.c (.int .i64 (relI f k + f.dea - 1)), .c (.int .i64 0)]) := by
  refine Does.of_body Try.func70 rfl (by kernel_rfl) rfl rfl (by simp) ?_
  intro E
  have hp := fault_ok h
  have a2 := relI_b hp h0 h1
  have a3 := hp.p2
  have a4 := hp.d1
  have a5 := hp.d2
  have hr := release_does f k h h0 h1
  generalize relI f k = r at *
  have w1 : IntKind.i64.wrap (r + f.dea) = r + f.dea := wrap_i64 (by omega) (by omega)
  have w2 : IntKind.i64.wrap (r + f.dea - 1) = r + f.dea - 1 := wrap_i64 (by omega) (by omega)
  repeat (first
    | (refine Tri.seq fun K hK => ?_)
    | (refine Tri.region ?_; simp [upd, w1, w2])
    | (refine Tri.draw (by kernel_rfl) (by decide +kernel) ?_; simp [upd, w1, w2])
    | (refine Tri.cond_true ?_ ?_; (focus simp [upd, w1, w2]; done))
    | (refine Tri.cond_false ?_ ?_; (focus simp [upd, w1, w2]; done))
    | (refine Tri.skip ?_; simp only [thenS, blockS])
    | (refine Tri.block_seq ?_)
    | (refine Tri.block_region ?_)
    | (refine Tri.block_cond ?_)
    | ((with_reducible refine CallK.pure (hr) (Wks.refl _) ?_); simp [upd, w1, w2])
    | (refine Tri.exit ?_; simp [upd, w1, w2]; first | (rename ∀ st, Tri _ _ _ st _ → _ => hK; first | (apply hK; clear hK) | (clear hK; rename ∀ st, Tri _ _ _ st _ → _ => hK; first | (apply hK; clear hK) | (clear hK; rename ∀ st, Tri _ _ _ st _ → _ => hK; first | (apply hK; clear hK) | (clear hK; rename ∀ st, Tri _ _ _ st _ → _ => hK; first | (apply hK; clear hK) | (clear hK; rename ∀ st, Tri _ _ _ st _ → _ => hK; first | (apply hK; clear hK) | (clear hK; rename ∀ st, Tri _ _ _ st _ → _ => hK; apply hK; clear hK)))))) | skip)
    | (intro β)
    | (rename ∀ st, Tri _ _ _ st _ → _ => hK; apply hK; clear hK))
  refine Tri.ret ⟨_, rfl, ?_⟩
  simp [upd]
  exact Wk.refl _
def curI (f : Flo) (s : Int) : List V := if s < f.pha then [.c (.int .i64 0), .c (.bool false)] else [.c (.int .i64 ((s - f.pha).tdiv f.per)), .c (.bool true)]
theorem current_does (f : Flo) (s : Int) (h : fault 32 f = 0) (h0 : 0 ≤ s) (h1 : s ≤ 4096) : Does Try.prog 64 [.agg (floC f), .c (.int .i64 s)] (.tup (curI f s)) := by
  refine Does.of_body Try.func64 rfl (by kernel_rfl) rfl rfl (by simp) ?_
  intro E
  have hp := fault_ok h
  have hl := alone_does f
  rw [h] at hl
  unfold curI
  by_cases g1 : s < f.pha
  · rw [if_pos g1]
    repeat (first
      | (refine Tri.seq fun K hK => ?_)
      | (refine Tri.region ?_; simp [upd, g1])
      | (refine Tri.draw (by kernel_rfl) (by decide +kernel) ?_; simp [upd, g1])
      | (refine Tri.cond_true ?_ ?_; (focus simp [upd, g1]; done))
      | (refine Tri.cond_false ?_ ?_; (focus simp [upd, g1]; done))
      | (refine Tri.skip ?_; simp only [thenS, blockS])
      | (refine Tri.block_seq ?_)
      | (refine Tri.block_region ?_)
      | (refine Tri.block_cond ?_)
      | ((with_reducible refine CallK.pure (hl) (Wks.refl _) ?_); simp [upd, g1])
      | (refine Tri.exit ?_; simp [upd, g1]; first | (rename ∀ st, Tri _ _ _ st _ → _ => hK; first | (apply hK; clear hK) | (clear hK; rename ∀ st, Tri _ _ _ st _ → _ => hK; first | (apply hK; clear hK) | (clear hK; rename ∀ st, Tri _ _ _ st _ → _ => hK; first | (apply hK; clear hK) | (clear hK; rename ∀ st, Tri _ _ _ st _ → _ => hK; first | (apply hK; clear hK) | (clear hK; rename ∀ st, Tri _ _ _ st _ → _ => hK; first | (apply hK; clear hK) | (clear hK; rename ∀ st, Tri _ _ _ st _ → _ => hK; apply hK; clear hK)))))) | skip)
      | (intro β)
      | (rename ∀ st, Tri _ _ _ st _ → _ => hK; apply hK; clear hK))
    refine Tri.ret ⟨_, rfl, ?_⟩
    simp [upd]
    exact Wk.refl _
  rw [if_neg g1]
  have a1 := hp.h0
  have a2 := hp.p1
  have a3 : f.per ≠ 0 := by omega
  have w1 : IntKind.i64.wrap (s - f.pha) = s - f.pha := wrap_i64 (by omega) (by omega)
  have b0 : 0 ≤ (s - f.pha).tdiv f.per := Int.tdiv_nonneg (by omega) (by omega)
  have b1 : (s - f.pha).tdiv f.per ≤ s - f.pha := Int.tdiv_le_self _ (by omega)
  have w2 : IntKind.i64.wrap ((s - f.pha).tdiv f.per) = (s - f.pha).tdiv f.per := wrap_i64 (by omega) (by omega)
  have g2 : ¬ 1099511627776 < s := by omega
  repeat (first
    | (refine Tri.seq fun K hK => ?_)
    | (refine Tri.region ?_; simp [upd, g1, g2, w1, w2, a3])
    | (refine Tri.draw (by kernel_rfl) (by decide +kernel) ?_; simp [upd, g1, g2, w1, w2, a3])
    | (refine Tri.cond_true ?_ ?_; (focus simp [upd, g1, g2, w1, w2, a3]; done))
    | (refine Tri.cond_false ?_ ?_; (focus simp [upd, g1, g2, w1, w2, a3]; done))
    | (refine Tri.skip ?_; simp only [thenS, blockS])
    | (refine Tri.block_seq ?_)
    | (refine Tri.block_region ?_)
    | (refine Tri.block_cond ?_)
    | ((with_reducible refine CallK.pure (hl) (Wks.refl _) ?_); simp [upd, g1, g2, w1, w2, a3])
    | (refine Tri.exit ?_; simp [upd, g1, g2, w1, w2, a3]; first | (rename ∀ st, Tri _ _ _ st _ → _ => hK; first | (apply hK; clear hK) | (clear hK; rename ∀ st, Tri _ _ _ st _ → _ => hK; first | (apply hK; clear hK) | (clear hK; rename ∀ st, Tri _ _ _ st _ → _ => hK; first | (apply hK; clear hK) | (clear hK; rename ∀ st, Tri _ _ _ st _ → _ => hK; first | (apply hK; clear hK) | (clear hK; rename ∀ st, Tri _ _ _ st _ → _ => hK; first | (apply hK; clear hK) | (clear hK; rename ∀ st, Tri _ _ _ st _ → _ => hK; apply hK; clear hK)))))) | skip)
    | (intro β)
    | (rename ∀ st, Tri _ _ _ st _ → _ => hK; apply hK; clear hK))
  refine Tri.ret ⟨_, rfl, ?_⟩
  simp [upd]
  exact Wk.refl _
theorem indexF (f : FuncId) (p : Flo → Bool) (b : Nat) (cs : List C) (h : ∀ x, DoesB Try.prog f [.agg (floC x), .c (.box 100 b 0)] [(100, b, cs)] [] (fun _ => (.c (.bool (p x)), [(100, b, cs)], []))) (l : List Flo) (nl : Bool) (hl : l.length ≤ 1073741824) :
    DoesB Try.prog 66 [.c (.sl nl 6 none (l.map floC)), .c (.fn f [.box 100 b 0])] [(100, b, cs)] [] (fun _ => (.c (.int .i64 (idxI p l)), [(100, b, cs)], [])) := by
  refine DoesB.of_body Try.func66 rfl (by kernel_rfl) rfl rfl (by simp) (fun _ => rfl) fun E => ?_
  repeat (first
    | (refine Tri.seq fun K hK => ?_)
    | (refine Tri.region ?_; simp [upd])
    | (refine Tri.draw (by kernel_rfl) (by decide +kernel) ?_; simp [upd])
    | (refine Tri.cond_true ?_ ?_; (focus simp [upd]; done))
    | (refine Tri.cond_false ?_ ?_; (focus simp [upd]; done))
    | (refine Tri.skip ?_; simp only [thenS, blockS])
    | (refine Tri.block_seq ?_)
    | (refine Tri.block_region ?_)
    | (refine Tri.block_cond ?_)
    | (refine Tri.exit ?_; simp [upd]; first | (rename ∀ st, Tri _ _ _ st _ → _ => hK; first | (apply hK; clear hK) | (clear hK; rename ∀ st, Tri _ _ _ st _ → _ => hK; first | (apply hK; clear hK) | (clear hK; rename ∀ st, Tri _ _ _ st _ → _ => hK; first | (apply hK; clear hK) | (clear hK; rename ∀ st, Tri _ _ _ st _ → _ => hK; first | (apply hK; clear hK) | (clear hK; rename ∀ st, Tri _ _ _ st _ → _ => hK; first | (apply hK; clear hK) | (clear hK; rename ∀ st, Tri _ _ _ st _ → _ => hK; apply hK; clear hK)))))) | skip)
    | (intro β)
    | (rename ∀ st, Tri _ _ _ st _ → _ => hK; apply hK; clear hK))
  refine Tri.range 8 7 9 18 19 rfl rfl l.length (fun k st => st.sl 0 = .c (.sl nl 6 none (l.map floC)) ∧ st.sl 1 = .c (.fn f [.box 100 b 0]) ∧ st.bx 100 = some (b, cs) ∧ ∀ j (_ : j < l.length), j < k → p l[j] = false) (by simp) (by omega) ?_ rfl (by simp [upd]) (by simp [upd]) ?_ ?_ ?_
  · rintro k st t v ht ⟨a0, a1, a2, hb⟩
    rcases ht with rfl | rfl | rfl <;> exact ⟨by simpa [upd] using a0, by simpa [upd] using a1, by simpa using a2, hb⟩
  · exact ⟨by simp [upd], by simp [upd], by simp, fun j _ h => by omega⟩
  · rintro k st hk ⟨a0, a1, a2, hb⟩ hn h8 h7
    have g := h l[k]
    cases hp : p l[k]
    case true =>
      rw [idxI_at hk hp hb]
      rw [hp] at g
      repeat (first
        | (refine Tri.seq fun K hK => ?_)
        | (refine Tri.region ?_; simp [upd, hn, a0, a1, a2, h8, h7, hk])
        | (refine Tri.draw (by kernel_rfl) (by decide +kernel) ?_; simp [upd, hn, a0, a1, a2, h8, h7, hk])
        | (refine Tri.cond_true ?_ ?_; (focus simp [upd, hn, a0, a1, a2, h8, h7, hk]; done))
        | (refine Tri.cond_false ?_ ?_; (focus simp [upd, hn, a0, a1, a2, h8, h7, hk]; done))
        | (refine Tri.skip ?_; simp only [thenS, blockS])
        | (refine Tri.block_seq ?_)
        | (refine Tri.block_region ?_)
        | (refine Tri.block_cond ?_)
        | (refine CallK.look 100 g (Wks.refl _) ?_ ?_; (focus (simp [upd, a2]; done)); simp [upd, hn, a0, a1, a2, h8, h7, hk])
        | (refine Tri.exit ?_; simp [upd, hn, a0, a1, a2, h8, h7, hk]; first | (rename ∀ st, Tri _ _ _ st _ → _ => hK; first | (apply hK; clear hK) | (clear hK; rename ∀ st, Tri _ _ _ st _ → _ => hK; first | (apply hK; clear hK) | (clear hK; rename ∀ st, Tri _ _ _ st _ → _ => hK; first | (apply hK; clear hK) | (clear hK; rename ∀ st, Tri _ _ _ st _ → _ => hK; first | (apply hK; clear hK) | (clear hK; rename ∀ st, Tri _ _ _ st _ → _ => hK; first | (apply hK; clear hK) | (clear hK; rename ∀ st, Tri _ _ _ st _ → _ => hK; apply hK; clear hK)))))) | skip)
        | (intro β)
        | (rename ∀ st, Tri _ _ _ st _ → _ => hK; apply hK; clear hK))
      refine Tri.ret ⟨_, 0, [], rfl, ?_, ?_, trivial, by simp⟩
      · simp [upd]
        exact Wk.refl _
      · simp [upd, a2]
    rw [hp] at g
    repeat (first
      | (refine Tri.seq fun K hK => ?_)
      | (refine Tri.region ?_; simp [upd, hn, a0, a1, a2, h8, h7, hk])
      | (refine Tri.draw (by kernel_rfl) (by decide +kernel) ?_; simp [upd, hn, a0, a1, a2, h8, h7, hk])
      | (refine Tri.cond_true ?_ ?_; (focus simp [upd, hn, a0, a1, a2, h8, h7, hk]; done))
      | (refine Tri.cond_false ?_ ?_; (focus simp [upd, hn, a0, a1, a2, h8, h7, hk]; done))
      | (refine Tri.skip ?_; simp only [thenS, blockS])
      | (refine Tri.block_seq ?_)
      | (refine Tri.block_region ?_)
      | (refine Tri.block_cond ?_)
      | (refine CallK.look 100 g (Wks.refl _) ?_ ?_; (focus (simp [upd, a2]; done)); simp [upd, hn, a0, a1, a2, h8, h7, hk])
      | (refine Tri.exit ?_; simp [upd, hn, a0, a1, a2, h8, h7, hk]; first | (rename ∀ st, Tri _ _ _ st _ → _ => hK; first | (apply hK; clear hK) | (clear hK; rename ∀ st, Tri _ _ _ st _ → _ => hK; first | (apply hK; clear hK) | (clear hK; rename ∀ st, Tri _ _ _ st _ → _ => hK; first | (apply hK; clear hK) | (clear hK; rename ∀ st, Tri _ _ _ st _ → _ => hK; first | (apply hK; clear hK) | (clear hK; rename ∀ st, Tri _ _ _ st _ → _ => hK; first | (apply hK; clear hK) | (clear hK; rename ∀ st, Tri _ _ _ st _ → _ => hK; apply hK; clear hK)))))) | skip)
      | (intro β)
      | (rename ∀ st, Tri _ _ _ st _ → _ => hK; apply hK; clear hK))
    try simp [upd, h8, h7, a0, a1, a2]
    intro j hj hjk
    rcases Nat.lt_succ_iff_lt_or_eq.1 hjk with h' | rfl
    · exact hb j hj h'
    · exact hp
  · rintro st ⟨a0, a1, a2, hb⟩ hn
    rename ∀ st, Tri _ _ _ st _ → _ => hK
    apply hK
    rw [idxI_none (p := p) (l := l) fun j hj => hb j hj hj]
    repeat (first
      | (refine Tri.seq fun K hK => ?_)
      | (refine Tri.region ?_; simp [upd, hn, a2])
      | (refine Tri.draw (by kernel_rfl) (by decide +kernel) ?_; simp [upd, hn, a2])
      | (refine Tri.cond_true ?_ ?_; (focus simp [upd, hn, a2]; done))
      | (refine Tri.cond_false ?_ ?_; (focus simp [upd, hn, a2]; done))
      | (refine Tri.skip ?_; simp only [thenS, blockS])
      | (refine Tri.block_seq ?_)
      | (refine Tri.block_region ?_)
      | (refine Tri.block_cond ?_)
      | (refine Tri.exit ?_; simp [upd, hn, a2]; first | (rename ∀ st, Tri _ _ _ st _ → _ => hK; first | (apply hK; clear hK) | (clear hK; rename ∀ st, Tri _ _ _ st _ → _ => hK; first | (apply hK; clear hK) | (clear hK; rename ∀ st, Tri _ _ _ st _ → _ => hK; first | (apply hK; clear hK) | (clear hK; rename ∀ st, Tri _ _ _ st _ → _ => hK; first | (apply hK; clear hK) | (clear hK; rename ∀ st, Tri _ _ _ st _ → _ => hK; first | (apply hK; clear hK) | (clear hK; rename ∀ st, Tri _ _ _ st _ → _ => hK; apply hK; clear hK)))))) | skip)
      | (intro β)
      | (rename ∀ st, Tri _ _ _ st _ → _ => hK; apply hK; clear hK))
    refine Tri.ret ⟨_, 0, [], rfl, ?_, ?_, trivial, by simp⟩
    · simp [upd]
      exact Wk.refl _
    · simp [upd, a2]
theorem cloF (x : Flo) (b : Nat) (id : Int) : DoesB Try.prog 67 [.agg (floC x), .c (.box 100 b 0)] [(100, b, [.int .i64 id])] [] (fun _ => (.c (.bool (x.id == id)), [(100, b, [.int .i64 id])], [])) := by
  refine DoesB.of_body Try.func67 rfl (by kernel_rfl) rfl rfl (by simp) (fun _ => rfl) fun E => ?_
  repeat (first
    | (refine Tri.seq fun K hK => ?_)
    | (refine Tri.region ?_; simp [upd])
    | (refine Tri.draw (by kernel_rfl) (by decide +kernel) ?_; simp [upd])
    | (refine Tri.cond_true ?_ ?_; (focus simp [upd]; done))
    | (refine Tri.cond_false ?_ ?_; (focus simp [upd]; done))
    | (refine Tri.skip ?_; simp only [thenS, blockS])
    | (refine Tri.block_seq ?_)
    | (refine Tri.block_region ?_)
    | (refine Tri.block_cond ?_)
    | (refine Tri.exit ?_; simp [upd]; first | (rename ∀ st, Tri _ _ _ st _ → _ => hK; first | (apply hK; clear hK) | (clear hK; rename ∀ st, Tri _ _ _ st _ → _ => hK; first | (apply hK; clear hK) | (clear hK; rename ∀ st, Tri _ _ _ st _ → _ => hK; first | (apply hK; clear hK) | (clear hK; rename ∀ st, Tri _ _ _ st _ → _ => hK; first | (apply hK; clear hK) | (clear hK; rename ∀ st, Tri _ _ _ st _ → _ => hK; first | (apply hK; clear hK) | (clear hK; rename ∀ st, Tri _ _ _ st _ → _ => hK; apply hK; clear hK)))))) | skip)
    | (intro β)
    | (rename ∀ st, Tri _ _ _ st _ → _ => hK; apply hK; clear hK))
  refine Tri.ret ⟨_, 0, [], rfl, ?_, ?_, trivial, by simp⟩
  · simp [upd]
    exact Wk.refl _
  · simp [upd]
def findI (id : Int) (l : List Flo) : Int := idxI (fun x => x.id == id) l
theorem find_does (l : List Flo) (nl : Bool) (id : Int) (hl : l.length ≤ 1073741824) : Does Try.prog 36 [.c (.sl nl 6 none (l.map floC)), .c (.int .i64 id)] (.c (.int .i64 (findI id l))) := by
  refine Does.of_body Try.func36 rfl (by kernel_rfl) rfl rfl (by simp) ?_
  intro E
  have g := fun b => indexF 67 (fun x => x.id == id) b [.int .i64 id] (fun x => cloF x b id) l nl hl
  change ∀ b, DoesB Try.prog 66 _ _ _ (fun _ => (.c (.int .i64 (findI id l)), _, _)) at g
  repeat (first
    | (refine Tri.seq fun K hK => ?_)
    | (refine Tri.region ?_; simp [upd])
    | (refine Tri.draw (by kernel_rfl) (by decide +kernel) ?_; simp [upd])
    | (refine Tri.cond_true ?_ ?_; (focus simp [upd]; done))
    | (refine Tri.cond_false ?_ ?_; (focus simp [upd]; done))
    | (refine Tri.skip ?_; simp only [thenS, blockS])
    | (refine Tri.block_seq ?_)
    | (refine Tri.block_region ?_)
    | (refine Tri.block_cond ?_)
    | (refine CallK.look 3 (g _) ⟨.refl _, .fn1 _ (.box _ _ _ _), trivial⟩ ?_ ?_; (focus (simp [upd]; done)); simp [upd])
    | (refine Tri.exit ?_; simp [upd]; first | (rename ∀ st, Tri _ _ _ st _ → _ => hK; first | (apply hK; clear hK) | (clear hK; rename ∀ st, Tri _ _ _ st _ → _ => hK; first | (apply hK; clear hK) | (clear hK; rename ∀ st, Tri _ _ _ st _ → _ => hK; first | (apply hK; clear hK) | (clear hK; rename ∀ st, Tri _ _ _ st _ → _ => hK; first | (apply hK; clear hK) | (clear hK; rename ∀ st, Tri _ _ _ st _ → _ => hK; first | (apply hK; clear hK) | (clear hK; rename ∀ st, Tri _ _ _ st _ → _ => hK; apply hK; clear hK)))))) | skip)
    | (intro β)
    | (rename ∀ st, Tri _ _ _ st _ → _ => hK; apply hK; clear hK))
  refine Tri.ret ⟨_, rfl, ?_⟩
  simp [upd]
  exact Wk.refl _
theorem findI_at {id : Int} {l : List Flo} {k : Nat} (hk : k < l.length) (h : (l[k].id == id) = true) (hb : ∀ j (_ : j < l.length), j < k → (l[j].id == id) = false) : findI id l = (k : Nat) := idxI_at hk h hb
theorem findI_none {id : Int} {l : List Flo} (hb : ∀ j (_ : j < l.length), (l[j].id == id) = false) : findI id l = -1 := idxI_none hb
attribute [local irreducible] findI
theorem findR_does (l : List Flo) (nl : Bool) (id : Int) (hl : l.length ≤ 1073741824) : Does Try.prog 63 [.c (.sl nl 6 none (l.map floC)), .c (.int .i64 id)] (.c (.int .i64 (findI id l))) := by
  refine Does.of_body Try.func63 rfl (by kernel_rfl) rfl rfl (by simp) ?_
  intro E
  repeat (first
    | (refine Tri.seq fun K hK => ?_)
    | (refine Tri.region ?_; simp [upd])
    | (refine Tri.draw (by kernel_rfl) (by decide +kernel) ?_; simp [upd])
    | (refine Tri.cond_true ?_ ?_; (focus simp [upd]; done))
    | (refine Tri.cond_false ?_ ?_; (focus simp [upd]; done))
    | (refine Tri.skip ?_; simp only [thenS, blockS])
    | (refine Tri.block_seq ?_)
    | (refine Tri.block_region ?_)
    | (refine Tri.block_cond ?_)
    | (refine Tri.exit ?_; simp [upd]; first | (rename ∀ st, Tri _ _ _ st _ → _ => hK; first | (apply hK; clear hK) | (clear hK; rename ∀ st, Tri _ _ _ st _ → _ => hK; first | (apply hK; clear hK) | (clear hK; rename ∀ st, Tri _ _ _ st _ → _ => hK; first | (apply hK; clear hK) | (clear hK; rename ∀ st, Tri _ _ _ st _ → _ => hK; first | (apply hK; clear hK) | (clear hK; rename ∀ st, Tri _ _ _ st _ → _ => hK; first | (apply hK; clear hK) | (clear hK; rename ∀ st, Tri _ _ _ st _ → _ => hK; apply hK; clear hK)))))) | skip)
    | (intro β)
    | (rename ∀ st, Tri _ _ _ st _ → _ => hK; apply hK; clear hK))
  rename ∀ st, Tri _ _ _ st _ → _ => hK
  have fin := fun (st : St) (h : st.n = 20 ∧ findI id l = -1) => hK st ?tail
  case tail =>
    obtain ⟨hn, e⟩ := h
    rw [e]
    repeat (first
      | (refine Tri.seq fun K hK => ?_)
      | (refine Tri.region ?_; simp [upd, hn])
      | (refine Tri.draw (by kernel_rfl) (by decide +kernel) ?_; simp [upd, hn])
      | (refine Tri.cond_true ?_ ?_; (focus simp [upd, hn]; done))
      | (refine Tri.cond_false ?_ ?_; (focus simp [upd, hn]; done))
      | (refine Tri.skip ?_; simp only [thenS, blockS])
      | (refine Tri.block_seq ?_)
      | (refine Tri.block_region ?_)
      | (refine Tri.block_cond ?_)
      | (refine Tri.exit ?_; simp [upd, hn]; first | (rename ∀ st, Tri _ _ _ st _ → _ => hK; first | (apply hK; clear hK) | (clear hK; rename ∀ st, Tri _ _ _ st _ → _ => hK; first | (apply hK; clear hK) | (clear hK; rename ∀ st, Tri _ _ _ st _ → _ => hK; first | (apply hK; clear hK) | (clear hK; rename ∀ st, Tri _ _ _ st _ → _ => hK; first | (apply hK; clear hK) | (clear hK; rename ∀ st, Tri _ _ _ st _ → _ => hK; first | (apply hK; clear hK) | (clear hK; rename ∀ st, Tri _ _ _ st _ → _ => hK; apply hK; clear hK)))))) | skip)
      | (intro β)
      | (rename ∀ st, Tri _ _ _ st _ → _ => hK; apply hK; clear hK))
    refine Tri.ret ⟨_, rfl, ?_⟩
    simp [upd]
    exact Wk.refl _
  clear hK
  refine Tri.block (Tri.loop (fun m st => ∃ i : Nat, m + i = l.length ∧ st.n = 20 ∧ st.sl 0 = .c (.sl nl 6 none (l.map floC)) ∧ st.sl 1 = .c (.int .i64 id) ∧ st.sl 5 = .c (.int .i64 i) ∧ ∀ j (_ : j < l.length), j < i → (l[j].id == id) = false) l.length ⟨0, rfl, rfl, by simp [upd], by simp [upd], by simp [upd], fun j _ h => by omega⟩ ?_)
  rintro m st ⟨i, hm, hn, s0, s1, s5, hb⟩
  by_cases hi : i < l.length
  case neg =>
    repeat (first
      | (refine Tri.seq fun K hK => ?_)
      | (refine Tri.region ?_; simp [upd, hn, s0, s1, s5, hi])
      | (refine Tri.draw (by kernel_rfl) (by decide +kernel) ?_; simp [upd, hn, s0, s1, s5, hi])
      | (refine Tri.cond_true ?_ ?_; (focus simp [upd, hn, s0, s1, s5, hi]; done))
      | (refine Tri.cond_false ?_ ?_; (focus simp [upd, hn, s0, s1, s5, hi]; done))
      | (refine Tri.skip ?_; simp only [thenS, blockS])
      | (refine Tri.block_seq ?_)
      | (refine Tri.block_region ?_)
      | (refine Tri.block_cond ?_)
      | (refine Tri.exit ?_; simp [upd, hn, s0, s1, s5, hi]; first | (rename ∀ st, Tri _ _ _ st _ → _ => hK; first | (apply hK; clear hK) | (clear hK; rename ∀ st, Tri _ _ _ st _ → _ => hK; first | (apply hK; clear hK) | (clear hK; rename ∀ st, Tri _ _ _ st _ → _ => hK; first | (apply hK; clear hK) | (clear hK; rename ∀ st, Tri _ _ _ st _ → _ => hK; first | (apply hK; clear hK) | (clear hK; rename ∀ st, Tri _ _ _ st _ → _ => hK; first | (apply hK; clear hK) | (clear hK; rename ∀ st, Tri _ _ _ st _ → _ => hK; apply hK; clear hK)))))) | skip)
      | (intro β)
      | (rename ∀ st, Tri _ _ _ st _ → _ => hK; apply hK; clear hK))
    apply fin
    exact ⟨rfl, findI_none fun j hj => hb j hj (by omega)⟩
  have hw : IntKind.i64.wrap ((i : Int) + 1) = (i : Int) + 1 := wrap_i64 (by omega) (by omega)
  cases e1 : (l[i].id == id)
  case true =>
    rw [findI_at hi e1 hb]
    repeat (first
      | (refine Tri.seq fun K hK => ?_)
      | (refine Tri.region ?_; simp [upd, hn, s0, s1, s5, hi, e1])
      | (refine Tri.draw (by kernel_rfl) (by decide +kernel) ?_; simp [upd, hn, s0, s1, s5, hi, e1])
      | (refine Tri.cond_true ?_ ?_; (focus simp [upd, hn, s0, s1, s5, hi, e1]; done))
      | (refine Tri.cond_false ?_ ?_; (focus simp [upd, hn, s0, s1, s5, hi, e1]; done))
      | (refine Tri.skip ?_; simp only [thenS, blockS])
      | (refine Tri.block_seq ?_)
      | (refine Tri.block_region ?_)
      | (refine Tri.block_cond ?_)
      | (refine Tri.exit ?_; simp [upd, hn, s0, s1, s5, hi, e1]; first | (rename ∀ st, Tri _ _ _ st _ → _ => hK; first | (apply hK; clear hK) | (clear hK; rename ∀ st, Tri _ _ _ st _ → _ => hK; first | (apply hK; clear hK) | (clear hK; rename ∀ st, Tri _ _ _ st _ → _ => hK; first | (apply hK; clear hK) | (clear hK; rename ∀ st, Tri _ _ _ st _ → _ => hK; first | (apply hK; clear hK) | (clear hK; rename ∀ st, Tri _ _ _ st _ → _ => hK; first | (apply hK; clear hK) | (clear hK; rename ∀ st, Tri _ _ _ st _ → _ => hK; apply hK; clear hK)))))) | skip)
      | (intro β)
      | (rename ∀ st, Tri _ _ _ st _ → _ => hK; apply hK; clear hK))
    refine Tri.ret ⟨_, rfl, ?_⟩
    simp [upd]
    exact Wk.refl _
  repeat (first
    | (refine Tri.seq fun K hK => ?_)
    | (refine Tri.region ?_; simp [upd, hn, s0, s1, s5, hi, e1, hw])
    | (refine Tri.draw (by kernel_rfl) (by decide +kernel) ?_; simp [upd, hn, s0, s1, s5, hi, e1, hw])
    | (refine Tri.cond_true ?_ ?_; (focus simp [upd, hn, s0, s1, s5, hi, e1, hw]; done))
    | (refine Tri.cond_false ?_ ?_; (focus simp [upd, hn, s0, s1, s5, hi, e1, hw]; done))
    | (refine Tri.skip ?_; simp only [thenS, blockS])
    | (refine Tri.block_seq ?_)
    | (refine Tri.block_region ?_)
    | (refine Tri.block_cond ?_)
    | (refine Tri.exit ?_; simp [upd, hn, s0, s1, s5, hi, e1, hw]; first | (rename ∀ st, Tri _ _ _ st _ → _ => hK; first | (apply hK; clear hK) | (clear hK; rename ∀ st, Tri _ _ _ st _ → _ => hK; first | (apply hK; clear hK) | (clear hK; rename ∀ st, Tri _ _ _ st _ → _ => hK; first | (apply hK; clear hK) | (clear hK; rename ∀ st, Tri _ _ _ st _ → _ => hK; first | (apply hK; clear hK) | (clear hK; rename ∀ st, Tri _ _ _ st _ → _ => hK; first | (apply hK; clear hK) | (clear hK; rename ∀ st, Tri _ _ _ st _ → _ => hK; apply hK; clear hK)))))) | skip)
    | (intro β)
    | (rename ∀ st, Tri _ _ _ st _ → _ => hK; apply hK; clear hK))
  refine ⟨m - 1, by omega, i + 1, by omega, by omega, ?_⟩
  intro j hj hji
  rcases Nat.lt_succ_iff_lt_or_eq.1 hji with h' | rfl
  · simpa using hb j hj h'
  · simpa using e1
end Go.Proofs.Ytngbpmiikpjiaaa
end
section
open Go Go.Vm
namespace Go.Proofs.Ytngbpmiikpjiaaa
set_option maxRecDepth 100000
set_option maxHeartbeats 4000000
set_option linter.unusedSimpArgs false
def notUp (p : Option Flo) (f : Flo) : Bool := match p with
  | none => false
  | some q => decide (f.id ≤ q.id)
/-- The first flow with a fault, and the fault. -/
def flowsGo (n : Int) : Option Flo → List Flo → Nat → Int × Int
  | _, [], _ => (-1, 0)
  | p, f :: r, i => if fault n f = 0 then (if notUp p f = true then ((i : Int), 5) else flowsGo n (some f) r (i + 1)) else ((i : Int), fault n f)
theorem flowsGo_nil (n : Int) (p : Option Flo) (i : Nat) : flowsGo n p [] i = (-1, 0) := by unfold flowsGo; rfl
def flowsCheck (n : Int) (l : List Flo) : Int × Int := if n < 2 ∨ 32 < n then (-1, 2) else if 16 < l.length then (-1, 8) else flowsGo n none l 0
def tup2 (p : Int × Int) : V := .tup [.c (.int .i64 p.1), .c (.int .i64 p.2)]
attribute [local irreducible] Tri Does DoesB Rounds check fault
theorem check69_does (n : Int) (l : List Flo) (nl : Bool) : Does Try.prog 69 [.c (.int .i64 n), .c (.sl nl 6 none (l.map floC))] (tup2 (flowsCheck n l)) := by
  refine Does.of_body Try.func69 rfl (by kernel_rfl) rfl rfl (by simp) ?_
  intro E
  unfold flowsCheck
  by_cases g1 : n < 2
  · rw [if_pos (.inl g1)]
    repeat (first
      | (refine Tri.seq fun K hK => ?_)
      | (refine Tri.region ?_; simp [upd, g1])
      | (refine Tri.draw (by kernel_rfl) (by decide +kernel) ?_; simp [upd, g1])
      | (refine Tri.cond_true ?_ ?_; (focus simp [upd, g1]; done))
      | (refine Tri.cond_false ?_ ?_; (focus simp [upd, g1]; done))
      | (refine Tri.skip ?_; simp only [thenS, blockS])
      | (refine Tri.block_seq ?_)
      | (refine Tri.block_region ?_)
      | (refine Tri.block_cond ?_)
      | (refine Tri.exit ?_; simp [upd, g1]; first | (rename ∀ st, Tri _ _ _ st _ → _ => hK; first | (apply hK; clear hK) | (clear hK; rename ∀ st, Tri _ _ _ st _ → _ => hK; first | (apply hK; clear hK) | (clear hK; rename ∀ st, Tri _ _ _ st _ → _ => hK; first | (apply hK; clear hK) | (clear hK; rename ∀ st, Tri _ _ _ st _ → _ => hK; first | (apply hK; clear hK) | (clear hK; rename ∀ st, Tri _ _ _ st _ → _ => hK; first | (apply hK; clear hK) | (clear hK; rename ∀ st, Tri _ _ _ st _ → _ => hK; apply hK; clear hK)))))) | skip)
      | (intro β)
      | (rename ∀ st, Tri _ _ _ st _ → _ => hK; apply hK; clear hK))
    refine Tri.ret ⟨_, rfl, ?_⟩
    simp [upd]
    exact Wk.refl _
  by_cases g2 : 32 < n
  · rw [if_pos (.inr g2)]
    repeat (first
      | (refine Tri.seq fun K hK => ?_)
      | (refine Tri.region ?_; simp [upd, g1, g2])
      | (refine Tri.draw (by kernel_rfl) (by decide +kernel) ?_; simp [upd, g1, g2])
      | (refine Tri.cond_true ?_ ?_; (focus simp [upd, g1, g2]; done))
      | (refine Tri.cond_false ?_ ?_; (focus simp [upd, g1, g2]; done))
      | (refine Tri.skip ?_; simp only [thenS, blockS])
      | (refine Tri.block_seq ?_)
      | (refine Tri.block_region ?_)
      | (refine Tri.block_cond ?_)
      | (refine Tri.exit ?_; simp [upd, g1, g2]; first | (rename ∀ st, Tri _ _ _ st _ → _ => hK; first | (apply hK; clear hK) | (clear hK; rename ∀ st, Tri _ _ _ st _ → _ => hK; first | (apply hK; clear hK) | (clear hK; rename ∀ st, Tri _ _ _ st _ → _ => hK; first | (apply hK; clear hK) | (clear hK; rename ∀ st, Tri _ _ _ st _ → _ => hK; first | (apply hK; clear hK) | (clear hK; rename ∀ st, Tri _ _ _ st _ → _ => hK; first | (apply hK; clear hK) | (clear hK; rename ∀ st, Tri _ _ _ st _ → _ => hK; apply hK; clear hK)))))) | skip)
      | (intro β)
      | (rename ∀ st, Tri _ _ _ st _ → _ => hK; apply hK; clear hK))
    refine Tri.ret ⟨_, rfl, ?_⟩
    simp [upd]
    exact Wk.refl _
  rw [if_neg (by omega)]
  by_cases g3 : (16 : Int) < (l.length : Int)
  · rw [if_pos (by omega)]
    repeat (first
      | (refine Tri.seq fun K hK => ?_)
      | (refine Tri.region ?_; simp [upd, g1, g2, g3])
      | (refine Tri.draw (by kernel_rfl) (by decide +kernel) ?_; simp [upd, g1, g2, g3])
      | (refine Tri.cond_true ?_ ?_; (focus simp [upd, g1, g2, g3]; done))
      | (refine Tri.cond_false ?_ ?_; (focus simp [upd, g1, g2, g3]; done))
      | (refine Tri.skip ?_; simp only [thenS, blockS])
      | (refine Tri.block_seq ?_)
      | (refine Tri.block_region ?_)
      | (refine Tri.block_cond ?_)
      | (refine Tri.exit ?_; simp [upd, g1, g2, g3]; first | (rename ∀ st, Tri _ _ _ st _ → _ => hK; first | (apply hK; clear hK) | (clear hK; rename ∀ st, Tri _ _ _ st _ → _ => hK; first | (apply hK; clear hK) | (clear hK; rename ∀ st, Tri _ _ _ st _ → _ => hK; first | (apply hK; clear hK) | (clear hK; rename ∀ st, Tri _ _ _ st _ → _ => hK; first | (apply hK; clear hK) | (clear hK; rename ∀ st, Tri _ _ _ st _ → _ => hK; first | (apply hK; clear hK) | (clear hK; rename ∀ st, Tri _ _ _ st _ → _ => hK; apply hK; clear hK)))))) | skip)
      | (intro β)
      | (rename ∀ st, Tri _ _ _ st _ → _ => hK; apply hK; clear hK))
    refine Tri.ret ⟨_, rfl, ?_⟩
    simp [upd]
    exact Wk.refl _
  rw [if_neg (by omega)]
  repeat (first
    | (refine Tri.seq fun K hK => ?_)
    | (refine Tri.region ?_; simp [upd, g1, g2, g3])
    | (refine Tri.draw (by kernel_rfl) (by decide +kernel) ?_; simp [upd, g1, g2, g3])
    | (refine Tri.cond_true ?_ ?_; (focus simp [upd, g1, g2, g3]; done))
    | (refine Tri.cond_false ?_ ?_; (focus simp [upd, g1, g2, g3]; done))
    | (refine Tri.skip ?_; simp only [thenS, blockS])
    | (refine Tri.block_seq ?_)
    | (refine Tri.block_region ?_)
    | (refine Tri.block_cond ?_)
    | (refine Tri.exit ?_; simp [upd, g1, g2, g3]; first | (rename ∀ st, Tri _ _ _ st _ → _ => hK; first | (apply hK; clear hK) | (clear hK; rename ∀ st, Tri _ _ _ st _ → _ => hK; first | (apply hK; clear hK) | (clear hK; rename ∀ st, Tri _ _ _ st _ → _ => hK; first | (apply hK; clear hK) | (clear hK; rename ∀ st, Tri _ _ _ st _ → _ => hK; first | (apply hK; clear hK) | (clear hK; rename ∀ st, Tri _ _ _ st _ → _ => hK; first | (apply hK; clear hK) | (clear hK; rename ∀ st, Tri _ _ _ st _ → _ => hK; apply hK; clear hK)))))) | skip)
    | (intro β)
    | (rename ∀ st, Tri _ _ _ st _ → _ => hK; apply hK; clear hK))
  refine Tri.range 20 19 21 46 47 rfl rfl l.length (fun k st => st.sl 0 = .c (.int .i64 n) ∧ st.sl 1 = .c (.sl nl 6 none (l.map floC)) ∧ st.sl 18 = .c (.sl nl 6 none (l.map floC)) ∧
      flowsGo n none l 0 = flowsGo n (if k = 0 then none else l[k-1]?) (l.drop k) k) (by simp) (by omega) ?_ rfl (by simp [upd]) (by simp [upd]) ?_ ?_ ?_
  · rintro k st t v ht ⟨a1, a2, a3, a4⟩
    rcases ht with rfl | rfl | rfl <;> exact ⟨by simpa [upd] using a1, by simpa [upd] using a2, by simpa [upd] using a3, a4⟩
  · exact ⟨by simp [upd], by simp [upd], by simp [upd], by simp⟩
  · rintro k st hk ⟨s0, s1, s18, hgo⟩ hn h20 h19
    have hd : l.drop k = l[k] :: l.drop (k + 1) := List.drop_eq_getElem_cons hk
    rw [hd, flowsGo] at hgo
    cases hf : (fault n l[k] == 0)
    case false =>
      rw [if_neg (by simpa using hf)] at hgo
      rw [hgo]
      repeat (first
        | (refine Tri.seq fun K hK => ?_)
        | (refine Tri.region ?_; simp [upd, hn, s0, s1, s18, h20, h19, hk, bne, hf])
        | (refine Tri.draw (by kernel_rfl) (by decide +kernel) ?_; simp [upd, hn, s0, s1, s18, h20, h19, hk, bne, hf])
        | (refine Tri.cond_true ?_ ?_; (focus simp [upd, hn, s0, s1, s18, h20, h19, hk, bne, hf]; done))
        | (refine Tri.cond_false ?_ ?_; (focus simp [upd, hn, s0, s1, s18, h20, h19, hk, bne, hf]; done))
        | (refine Tri.skip ?_; simp only [thenS, blockS])
        | (refine Tri.block_seq ?_)
        | (refine Tri.block_region ?_)
        | (refine Tri.block_cond ?_)
        | ((with_reducible refine CallK.pure (fcheck_does _ _) (Wks.refl _) ?_); simp [upd, hn, s0, s1, s18, h20, h19, hk, bne, hf])
        | (refine Tri.exit ?_; simp [upd, hn, s0, s1, s18, h20, h19, hk, bne, hf]; first | (rename ∀ st, Tri _ _ _ st _ → _ => hK; first | (apply hK; clear hK) | (clear hK; rename ∀ st, Tri _ _ _ st _ → _ => hK; first | (apply hK; clear hK) | (clear hK; rename ∀ st, Tri _ _ _ st _ → _ => hK; first | (apply hK; clear hK) | (clear hK; rename ∀ st, Tri _ _ _ st _ → _ => hK; first | (apply hK; clear hK) | (clear hK; rename ∀ st, Tri _ _ _ st _ → _ => hK; first | (apply hK; clear hK) | (clear hK; rename ∀ st, Tri _ _ _ st _ → _ => hK; apply hK; clear hK)))))) | skip)
        | (intro β)
        | (rename ∀ st, Tri _ _ _ st _ → _ => hK; apply hK; clear hK))
      refine Tri.ret ⟨_, rfl, ?_⟩
      simp [upd]
      exact Wk.refl _
    have hf0 : fault n l[k] = 0 := by simpa using hf
    rw [if_pos hf0] at hgo
    cases k with
    | zero =>
      simp only [if_true, notUp] at hgo
      rw [if_neg (by simp)] at hgo
      rw [hgo]
      repeat (first
        | (refine Tri.seq fun K hK => ?_)
        | (refine Tri.region ?_; simp [upd, hn, s0, s1, s18, h20, h19, hk, bne, hf])
        | (refine Tri.draw (by kernel_rfl) (by decide +kernel) ?_; simp [upd, hn, s0, s1, s18, h20, h19, hk, bne, hf])
        | (refine Tri.draw2 [] [0, 1, 2, 3, 4, 5, 6, 7, 8, 9, 10, 11, 12] [] [] (by kernel_rfl) (by kernel_rfl) (by decide) (by rfl) (by decide +kernel) ?_; simp [upd, hn, s0, s1, s18, h20, h19, hk, bne, hf])
        | (refine Tri.cond_true ?_ ?_; (focus simp [upd, hn, s0, s1, s18, h20, h19, hk, bne, hf]; done))
        | (refine Tri.cond_false ?_ ?_; (focus simp [upd, hn, s0, s1, s18, h20, h19, hk, bne, hf]; done))
        | (refine Tri.skip ?_; simp only [thenS, blockS])
        | (refine Tri.block_seq ?_)
        | (refine Tri.block_region ?_)
        | (refine Tri.block_cond ?_)
        | ((with_reducible refine CallK.pure (fcheck_does _ _) (Wks.refl _) ?_); simp [upd, hn, s0, s1, s18, h20, h19, hk, bne, hf])
        | (refine Tri.exit ?_; simp [upd, hn, s0, s1, s18, h20, h19, hk, bne, hf]; first | (rename ∀ st, Tri _ _ _ st _ → _ => hK; first | (apply hK; clear hK) | (clear hK; rename ∀ st, Tri _ _ _ st _ → _ => hK; first | (apply hK; clear hK) | (clear hK; rename ∀ st, Tri _ _ _ st _ → _ => hK; first | (apply hK; clear hK) | (clear hK; rename ∀ st, Tri _ _ _ st _ → _ => hK; first | (apply hK; clear hK) | (clear hK; rename ∀ st, Tri _ _ _ st _ → _ => hK; first | (apply hK; clear hK) | (clear hK; rename ∀ st, Tri _ _ _ st _ → _ => hK; apply hK; clear hK)))))) | skip)
        | (intro β)
        | (rename ∀ st, Tri _ _ _ st _ → _ => hK; apply hK; clear hK))
      try simp [upd, hn, s0, s1, s18, h20, h19, hk]
    | succ m =>
      have hm : m < l.length := by omega
      have hw : IntKind.i64.wrap (m : Int) = m := wrap_i64 (by omega) (by omega)
      simp only [Nat.add_eq_zero_iff, Nat.one_ne_zero, and_false, if_false, Nat.add_sub_cancel, List.getElem?_eq_getElem hm, notUp] at hgo
      have hp : (0 : Int) < (m : Int) + 1 := by omega
      have hp0 : (0 : Int) ≤ (m : Int) + 1 := by omega
      by_cases hq : l[m + 1].id ≤ l[m].id
      · rw [if_pos (by simpa using hq)] at hgo
        rw [hgo]
        repeat (first
          | (refine Tri.seq fun K hK => ?_)
          | (refine Tri.region ?_; simp [upd, hn, s0, s1, s18, h20, h19, hk, bne, hf, hm, hw, hp, hp0, hq])
          | (refine Tri.draw (by kernel_rfl) (by decide +kernel) ?_; simp [upd, hn, s0, s1, s18, h20, h19, hk, bne, hf, hm, hw, hp, hp0, hq])
          | (refine Tri.draw2 [] [0, 1, 2, 3, 4, 5, 6, 7, 8, 9, 10, 11, 12] [] [] (by kernel_rfl) (by kernel_rfl) (by decide) (by rfl) (by decide +kernel) ?_; simp [upd, hn, s0, s1, s18, h20, h19, hk, bne, hf, hm, hw, hp, hp0, hq])
          | (refine Tri.cond_true ?_ ?_; (focus simp [upd, hn, s0, s1, s18, h20, h19, hk, bne, hf, hm, hw, hp, hp0, hq]; done))
          | (refine Tri.cond_false ?_ ?_; (focus simp [upd, hn, s0, s1, s18, h20, h19, hk, bne, hf, hm, hw, hp, hp0, hq]; done))
          | (refine Tri.skip ?_; simp only [thenS, blockS])
          | (refine Tri.block_seq ?_)
          | (refine Tri.block_region ?_)
          | (refine Tri.block_cond ?_)
          | ((with_reducible refine CallK.pure (fcheck_does _ _) (Wks.refl _) ?_); simp [upd, hn, s0, s1, s18, h20, h19, hk, bne, hf, hm, hw, hp, hp0, hq])
          | (refine Tri.exit ?_; simp [upd, hn, s0, s1, s18, h20, h19, hk, bne, hf, hm, hw, hp, hp0, hq]; first | (rename ∀ st, Tri _ _ _ st _ → _ => hK; first | (apply hK; clear hK) | (clear hK; rename ∀ st, Tri _ _ _ st _ → _ => hK; first | (apply hK; clear hK) | (clear hK; rename ∀ st, Tri _ _ _ st _ → _ => hK; first | (apply hK; clear hK) | (clear hK; rename ∀ st, Tri _ _ _ st _ → _ => hK; first | (apply hK; clear hK) | (clear hK; rename ∀ st, Tri _ _ _ st _ → _ => hK; first | (apply hK; clear hK) | (clear hK; rename ∀ st, Tri _ _ _ st _ → _ => hK; apply hK; clear hK)))))) | skip)
          | (intro β)
          | (rename ∀ st, Tri _ _ _ st _ → _ => hK; apply hK; clear hK))
        refine Tri.ret ⟨_, rfl, ?_⟩
        simp [upd]
        exact Wk.refl _
      · rw [if_neg (by simpa using hq)] at hgo
        rw [hgo]
        repeat (first
          | (refine Tri.seq fun K hK => ?_)
          | (refine Tri.region ?_; simp [upd, hn, s0, s1, s18, h20, h19, hk, bne, hf, hm, hw, hp, hp0, hq])
          | (refine Tri.draw (by kernel_rfl) (by decide +kernel) ?_; simp [upd, hn, s0, s1, s18, h20, h19, hk, bne, hf, hm, hw, hp, hp0, hq])
          | (refine Tri.draw2 [] [0, 1, 2, 3, 4, 5, 6, 7, 8, 9, 10, 11, 12] [] [] (by kernel_rfl) (by kernel_rfl) (by decide) (by rfl) (by decide +kernel) ?_; simp [upd, hn, s0, s1, s18, h20, h19, hk, bne, hf, hm, hw, hp, hp0, hq])
          | (refine Tri.cond_true ?_ ?_; (focus simp [upd, hn, s0, s1, s18, h20, h19, hk, bne, hf, hm, hw, hp, hp0, hq]; done))
          | (refine Tri.cond_false ?_ ?_; (focus simp [upd, hn, s0, s1, s18, h20, h19, hk, bne, hf, hm, hw, hp, hp0, hq]; done))
          | (refine Tri.skip ?_; simp only [thenS, blockS])
          | (refine Tri.block_seq ?_)
          | (refine Tri.block_region ?_)
          | (refine Tri.block_cond ?_)
          | ((with_reducible refine CallK.pure (fcheck_does _ _) (Wks.refl _) ?_); simp [upd, hn, s0, s1, s18, h20, h19, hk, bne, hf, hm, hw, hp, hp0, hq])
          | (refine Tri.exit ?_; simp [upd, hn, s0, s1, s18, h20, h19, hk, bne, hf, hm, hw, hp, hp0, hq]; first | (rename ∀ st, Tri _ _ _ st _ → _ => hK; first | (apply hK; clear hK) | (clear hK; rename ∀ st, Tri _ _ _ st _ → _ => hK; first | (apply hK; clear hK) | (clear hK; rename ∀ st, Tri _ _ _ st _ → _ => hK; first | (apply hK; clear hK) | (clear hK; rename ∀ st, Tri _ _ _ st _ → _ => hK; first | (apply hK; clear hK) | (clear hK; rename ∀ st, Tri _ _ _ st _ → _ => hK; first | (apply hK; clear hK) | (clear hK; rename ∀ st, Tri _ _ _ st _ → _ => hK; apply hK; clear hK)))))) | skip)
          | (intro β)
          | (rename ∀ st, Tri _ _ _ st _ → _ => hK; apply hK; clear hK))
        try simp [upd, hn, s0, s1, s18, h20, h19, hk]
  · rintro st ⟨s0, s1, s18, hgo⟩ hn
    rw [List.drop_length, flowsGo_nil] at hgo
    rename ∀ st, Tri _ _ _ st _ → _ => hK
    apply hK
    rw [hgo]
    repeat (first
      | (refine Tri.seq fun K hK => ?_)
      | (refine Tri.region ?_; simp [upd, hn])
      | (refine Tri.draw (by kernel_rfl) (by decide +kernel) ?_; simp [upd, hn])
      | (refine Tri.cond_true ?_ ?_; (focus simp [upd, hn]; done))
      | (refine Tri.cond_false ?_ ?_; (focus simp [upd, hn]; done))
      | (refine Tri.skip ?_; simp only [thenS, blockS])
      | (refine Tri.block_seq ?_)
      | (refine Tri.block_region ?_)
      | (refine Tri.block_cond ?_)
      | (refine Tri.exit ?_; simp [upd, hn]; first | (rename ∀ st, Tri _ _ _ st _ → _ => hK; first | (apply hK; clear hK) | (clear hK; rename ∀ st, Tri _ _ _ st _ → _ => hK; first | (apply hK; clear hK) | (clear hK; rename ∀ st, Tri _ _ _ st _ → _ => hK; first | (apply hK; clear hK) | (clear hK; rename ∀ st, Tri _ _ _ st _ → _ => hK; first | (apply hK; clear hK) | (clear hK; rename ∀ st, Tri _ _ _ st _ → _ => hK; first | (apply hK; clear hK) | (clear hK; rename ∀ st, Tri _ _ _ st _ → _ => hK; apply hK; clear hK)))))) | skip)
      | (intro β)
      | (rename ∀ st, Tri _ _ _ st _ → _ => hK; apply hK; clear hK))
    refine Tri.ret ⟨_, rfl, ?_⟩
    simp [upd]
    exact Wk.refl _
/-- The flows are right. -/
def flowsE (l : List Flo) : Int := (flowsCheck 32 l).2
theorem right_does (l : List Flo) (nl : Bool) (r : Rec) : Does Try.prog 40 [.c (.sl nl 6 none (l.map floC)), .agg (recC r)] (.c (.bool (flowsE l == 0 && check r == 0))) := by
  refine Does.of_body Try.func40 rfl (by kernel_rfl) rfl rfl (by simp) ?_
  intro E
  have h1 := check69_does 32 l nl
  have h2 := check_does r
  unfold tup2 at h1
  unfold flowsE
  simp only [recC] at h2 ⊢
  cases g1 : ((flowsCheck 32 l).2 == 0)
  · repeat (first
      | (refine Tri.seq fun K hK => ?_)
      | (refine Tri.region ?_; simp [upd, g1])
      | (refine Tri.draw (by kernel_rfl) (by decide +kernel) ?_; simp [upd, g1])
      | (refine Tri.cond_true ?_ ?_; (focus simp [upd, g1]; done))
      | (refine Tri.cond_false ?_ ?_; (focus simp [upd, g1]; done))
      | (refine Tri.skip ?_; simp only [thenS, blockS])
      | (refine Tri.block_seq ?_)
      | (refine Tri.block_region ?_)
      | (refine Tri.block_cond ?_)
      | ((with_reducible refine CallK.pure (h1) (Wks.refl _) ?_); simp [upd, g1])
      | ((with_reducible refine CallK.pure (h2) (Wks.refl _) ?_); simp [upd, g1])
      | (refine Tri.exit ?_; simp [upd, g1]; first | (rename ∀ st, Tri _ _ _ st _ → _ => hK; first | (apply hK; clear hK) | (clear hK; rename ∀ st, Tri _ _ _ st _ → _ => hK; first | (apply hK; clear hK) | (clear hK; rename ∀ st, Tri _ _ _ st _ → _ => hK; first | (apply hK; clear hK) | (clear hK; rename ∀ st, Tri _ _ _ st _ → _ => hK; first | (apply hK; clear hK) | (clear hK; rename ∀ st, Tri _ _ _ st _ → _ => hK; first | (apply hK; clear hK) | (clear hK; rename ∀ st, Tri _ _ _ st _ → _ => hK; apply hK; clear hK)))))) | skip)
      | (intro β)
      | (rename ∀ st, Tri _ _ _ st _ → _ => hK; apply hK; clear hK))
    refine Tri.ret ⟨_, rfl, ?_⟩
    simp [upd]
    exact Wk.refl _
  · repeat (first
      | (refine Tri.seq fun K hK => ?_)
      | (refine Tri.region ?_; simp [upd, g1])
      | (refine Tri.draw (by kernel_rfl) (by decide +kernel) ?_; simp [upd, g1])
      | (refine Tri.cond_true ?_ ?_; (focus simp [upd, g1]; done))
      | (refine Tri.cond_false ?_ ?_; (focus simp [upd, g1]; done))
      | (refine Tri.skip ?_; simp only [thenS, blockS])
      | (refine Tri.block_seq ?_)
      | (refine Tri.block_region ?_)
      | (refine Tri.block_cond ?_)
      | ((with_reducible refine CallK.pure (h1) (Wks.refl _) ?_); simp [upd, g1])
      | ((with_reducible refine CallK.pure (h2) (Wks.refl _) ?_); simp [upd, g1])
      | (refine Tri.exit ?_; simp [upd, g1]; first | (rename ∀ st, Tri _ _ _ st _ → _ => hK; first | (apply hK; clear hK) | (clear hK; rename ∀ st, Tri _ _ _ st _ → _ => hK; first | (apply hK; clear hK) | (clear hK; rename ∀ st, Tri _ _ _ st _ → _ => hK; first | (apply hK; clear hK) | (clear hK; rename ∀ st, Tri _ _ _ st _ → _ => hK; first | (apply hK; clear hK) | (clear hK; rename ∀ st, Tri _ _ _ st _ → _ => hK; first | (apply hK; clear hK) | (clear hK; rename ∀ st, Tri _ _ _ st _ → _ => hK; apply hK; clear hK)))))) | skip)
      | (intro β)
      | (rename ∀ st, Tri _ _ _ st _ → _ => hK; apply hK; clear hK))
    refine Tri.ret ⟨_, rfl, ?_⟩
    simp [upd]
    exact Wk.refl _
end Go.Proofs.Ytngbpmiikpjiaaa
end
section
open Go Go.Vm
namespace Go.Proofs.Ytngbpmiikpjiaaa
set_option maxRecDepth 100000
set_option maxHeartbeats 4000000
set_option linter.unusedSimpArgs false
attribute [local irreducible] Tri Does DoesB Rounds check
theorem in32_does (n lo hi : Int) : Does Try.prog 90 [.c (.int .i64 n), .c (.int .i64 lo), .c (.int .i64 hi)] (.c (.bool (inB n lo hi))) := by
  refine Does.of_body Try.func90 rfl (by kernel_rfl) rfl rfl (by simp) ?_
  intro E
  unfold inB
  by_cases h1 : lo ≤ n
  · repeat (first
      | (refine Tri.seq fun K hK => ?_)
      | (refine Tri.region ?_; simp [upd, h1])
      | (refine Tri.draw (by kernel_rfl) (by decide +kernel) ?_; simp [upd, h1])
      | (refine Tri.cond_true ?_ ?_; (focus simp [upd, h1]; done))
      | (refine Tri.cond_false ?_ ?_; (focus simp [upd, h1]; done))
      | (refine Tri.skip ?_; simp only [thenS, blockS])
      | (refine Tri.block_seq ?_)
      | (refine Tri.block_region ?_)
      | (refine Tri.block_cond ?_)
      | (refine Tri.exit ?_; simp [upd, h1]; first | (rename ∀ st, Tri _ _ _ st _ → _ => hK; first | (apply hK; clear hK) | (clear hK; rename ∀ st, Tri _ _ _ st _ → _ => hK; first | (apply hK; clear hK) | (clear hK; rename ∀ st, Tri _ _ _ st _ → _ => hK; first | (apply hK; clear hK) | (clear hK; rename ∀ st, Tri _ _ _ st _ → _ => hK; first | (apply hK; clear hK) | (clear hK; rename ∀ st, Tri _ _ _ st _ → _ => hK; first | (apply hK; clear hK) | (clear hK; rename ∀ st, Tri _ _ _ st _ → _ => hK; apply hK; clear hK)))))) | skip)
      | (intro β)
      | (rename ∀ st, Tri _ _ _ st _ → _ => hK; apply hK; clear hK))
    refine Tri.ret ⟨_, rfl, ?_⟩
    simp [upd, h1]
    exact Wk.refl _
  · repeat (first
      | (refine Tri.seq fun K hK => ?_)
      | (refine Tri.region ?_; simp [upd, h1])
      | (refine Tri.draw (by kernel_rfl) (by decide +kernel) ?_; simp [upd, h1])
      | (refine Tri.cond_true ?_ ?_; (focus simp [upd, h1]; done))
      | (refine Tri.cond_false ?_ ?_; (focus simp [upd, h1]; done))
      | (refine Tri.skip ?_; simp only [thenS, blockS])
      | (refine Tri.block_seq ?_)
      | (refine Tri.block_region ?_)
      | (refine Tri.block_cond ?_)
      | (refine Tri.exit ?_; simp [upd, h1]; first | (rename ∀ st, Tri _ _ _ st _ → _ => hK; first | (apply hK; clear hK) | (clear hK; rename ∀ st, Tri _ _ _ st _ → _ => hK; first | (apply hK; clear hK) | (clear hK; rename ∀ st, Tri _ _ _ st _ → _ => hK; first | (apply hK; clear hK) | (clear hK; rename ∀ st, Tri _ _ _ st _ → _ => hK; first | (apply hK; clear hK) | (clear hK; rename ∀ st, Tri _ _ _ st _ → _ => hK; first | (apply hK; clear hK) | (clear hK; rename ∀ st, Tri _ _ _ st _ → _ => hK; apply hK; clear hK)))))) | skip)
      | (intro β)
      | (rename ∀ st, Tri _ _ _ st _ → _ => hK; apply hK; clear hK))
    refine Tri.ret ⟨_, rfl, ?_⟩
    simp [upd, h1]
    exact Wk.refl _
theorem inB_f {n lo hi : Int} (h : inB n lo hi = false) : n < lo ∨ hi < n := by
  simp [inB] at h; omega
theorem inB_t {n lo hi : Int} (h : inB n lo hi = true) : lo ≤ n ∧ n ≤ hi := by
  simpa [inB] using h
theorem below_of_in {n hi : Int} (h : inB n 0 (hi - 1) = false) : belowB n hi = false := by
  have := inB_f h
  simp [belowB]; omega
theorem below_of_in' {n hi : Int} (h : inB n 0 (hi - 1) = true) : belowB n hi = true := by
  have := inB_t h
  simp [belowB]; omega
attribute [local irreducible] inB
theorem faultR_does (n : Int) (f : Flo) (h0 : 0 ≤ n) (h9 : n ≤ 1000000) : Does Try.prog 89 [.c (.int .i64 n), .agg (floC f)] (.c (.int .i64 (fault n f))) := by
  refine Does.of_body Try.func89 rfl (by kernel_rfl) rfl rfl (by simp) ?_
  intro E
  have w1 : IntKind.i64.wrap (n - 1) = n - 1 := wrap_i64 (by omega) (by omega)
  cases g1 : inB f.id 0 255
  case false =>
    have e : fault n f = 2 := by
      have := inB_f g1
      unfold fault
      by_cases c : f.id < 0
      · rw [if_pos c]
      · rw [if_neg c, if_pos (by omega)]
    rw [e]
    repeat (first
      | (refine Tri.seq fun K hK => ?_)
      | (refine Tri.region ?_; simp [upd, g1])
      | (refine Tri.draw (by kernel_rfl) (by decide +kernel) ?_; simp [upd, g1])
      | (refine Tri.cond_true ?_ ?_; (focus simp [upd, g1]; done))
      | (refine Tri.cond_false ?_ ?_; (focus simp [upd, g1]; done))
      | (refine Tri.skip ?_; simp only [thenS, blockS])
      | (refine Tri.block_seq ?_)
      | (refine Tri.block_region ?_)
      | (refine Tri.block_cond ?_)
      | ((with_reducible refine CallK.pure (in32_does _ _ _) (Wks.refl _) ?_); simp [upd, g1])
      | (refine Tri.exit ?_; simp [upd, g1]; first | (rename ∀ st, Tri _ _ _ st _ → _ => hK; first | (apply hK; clear hK) | (clear hK; rename ∀ st, Tri _ _ _ st _ → _ => hK; first | (apply hK; clear hK) | (clear hK; rename ∀ st, Tri _ _ _ st _ → _ => hK; first | (apply hK; clear hK) | (clear hK; rename ∀ st, Tri _ _ _ st _ → _ => hK; first | (apply hK; clear hK) | (clear hK; rename ∀ st, Tri _ _ _ st _ → _ => hK; first | (apply hK; clear hK) | (clear hK; rename ∀ st, Tri _ _ _ st _ → _ => hK; apply hK; clear hK)))))) | skip)
      | (intro β)
      | (rename ∀ st, Tri _ _ _ st _ → _ => hK; apply hK; clear hK))
    refine Tri.ret ⟨_, rfl, ?_⟩
    simp [upd]
    exact Wk.refl _
  have a1 := inB_t g1
  cases g2 : inB f.frm 0 (n - 1)
  case false =>
    have e : fault n f = 2 := by
      unfold fault
      rw [if_neg (by omega), if_neg (by omega), if_pos (below_of_in g2)]
    rw [e]
    repeat (first
      | (refine Tri.seq fun K hK => ?_)
      | (refine Tri.region ?_; simp [upd, w1, g1, g2])
      | (refine Tri.draw (by kernel_rfl) (by decide +kernel) ?_; simp [upd, w1, g1, g2])
      | (refine Tri.cond_true ?_ ?_; (focus simp [upd, w1, g1, g2]; done))
      | (refine Tri.cond_false ?_ ?_; (focus simp [upd, w1, g1, g2]; done))
      | (refine Tri.skip ?_; simp only [thenS, blockS])
      | (refine Tri.block_seq ?_)
      | (refine Tri.block_region ?_)
      | (refine Tri.block_cond ?_)
      | ((with_reducible refine CallK.pure (in32_does _ _ _) (Wks.refl _) ?_); simp [upd, w1, g1, g2])
      | (refine Tri.exit ?_; simp [upd, w1, g1, g2]; first | (rename ∀ st, Tri _ _ _ st _ → _ => hK; first | (apply hK; clear hK) | (clear hK; rename ∀ st, Tri _ _ _ st _ → _ => hK; first | (apply hK; clear hK) | (clear hK; rename ∀ st, Tri _ _ _ st _ → _ => hK; first | (apply hK; clear hK) | (clear hK; rename ∀ st, Tri _ _ _ st _ → _ => hK; first | (apply hK; clear hK) | (clear hK; rename ∀ st, Tri _ _ _ st _ → _ => hK; first | (apply hK; clear hK) | (clear hK; rename ∀ st, Tri _ _ _ st _ → _ => hK; apply hK; clear hK)))))) | skip)
      | (intro β)
      | (rename ∀ st, Tri _ _ _ st _ → _ => hK; apply hK; clear hK))
    refine Tri.ret ⟨_, rfl, ?_⟩
    simp [upd]
    exact Wk.refl _
  have b2 := below_of_in' g2
  cases g3 : inB f.to 0 (n - 1)
  case false =>
    have e : fault n f = 2 := by
      unfold fault
      rw [if_neg (by omega), if_neg (by omega), if_neg (by simp [b2]), if_pos (below_of_in g3)]
    rw [e]
    repeat (first
      | (refine Tri.seq fun K hK => ?_)
      | (refine Tri.region ?_; simp [upd, w1, g1, g2, g3])
      | (refine Tri.draw (by kernel_rfl) (by decide +kernel) ?_; simp [upd, w1, g1, g2, g3])
      | (refine Tri.cond_true ?_ ?_; (focus simp [upd, w1, g1, g2, g3]; done))
      | (refine Tri.cond_false ?_ ?_; (focus simp [upd, w1, g1, g2, g3]; done))
      | (refine Tri.skip ?_; simp only [thenS, blockS])
      | (refine Tri.block_seq ?_)
      | (refine Tri.block_region ?_)
      | (refine Tri.block_cond ?_)
      | ((with_reducible refine CallK.pure (in32_does _ _ _) (Wks.refl _) ?_); simp [upd, w1, g1, g2, g3])
      | (refine Tri.exit ?_; simp [upd, w1, g1, g2, g3]; first | (rename ∀ st, Tri _ _ _ st _ → _ => hK; first | (apply hK; clear hK) | (clear hK; rename ∀ st, Tri _ _ _ st _ → _ => hK; first | (apply hK; clear hK) | (clear hK; rename ∀ st, Tri _ _ _ st _ → _ => hK; first | (apply hK; clear hK) | (clear hK; rename ∀ st, Tri _ _ _ st _ → _ => hK; first | (apply hK; clear hK) | (clear hK; rename ∀ st, Tri _ _ _ st _ → _ => hK; first | (apply hK; clear hK) | (clear hK; rename ∀ st, Tri _ _ _ st _ → _ => hK; apply hK; clear hK)))))) | skip)
      | (intro β)
      | (rename ∀ st, Tri _ _ _ st _ → _ => hK; apply hK; clear hK))
    refine Tri.ret ⟨_, rfl, ?_⟩
    simp [upd]
    exact Wk.refl _
  have b3 := below_of_in' g3
  have e0 : fault n f = if f.per < 1 then 2 else if 512 < f.per then 2 else if f.pha < 0 then 2 else if f.per ≤ f.pha then 2 else if f.dea < 1 then 2 else if f.per < f.dea then 2
      else if f.frm = f.to then 1 else 0 := by
    unfold fault
    rw [if_neg (by omega), if_neg (by omega), if_neg (by simp [b2]), if_neg (by simp [b3])]
  rw [e0]
  cases g4 : inB f.per 1 512
  case false =>
    have e := inB_f g4
    by_cases c : f.per < 1
    · rw [if_pos c]
      repeat (first
        | (refine Tri.seq fun K hK => ?_)
        | (refine Tri.region ?_; simp [upd, w1, g1, g2, g3, g4])
        | (refine Tri.draw (by kernel_rfl) (by decide +kernel) ?_; simp [upd, w1, g1, g2, g3, g4])
        | (refine Tri.cond_true ?_ ?_; (focus simp [upd, w1, g1, g2, g3, g4]; done))
        | (refine Tri.cond_false ?_ ?_; (focus simp [upd, w1, g1, g2, g3, g4]; done))
        | (refine Tri.skip ?_; simp only [thenS, blockS])
        | (refine Tri.block_seq ?_)
        | (refine Tri.block_region ?_)
        | (refine Tri.block_cond ?_)
        | ((with_reducible refine CallK.pure (in32_does _ _ _) (Wks.refl _) ?_); simp [upd, w1, g1, g2, g3, g4])
        | (refine Tri.exit ?_; simp [upd, w1, g1, g2, g3, g4]; first | (rename ∀ st, Tri _ _ _ st _ → _ => hK; first | (apply hK; clear hK) | (clear hK; rename ∀ st, Tri _ _ _ st _ → _ => hK; first | (apply hK; clear hK) | (clear hK; rename ∀ st, Tri _ _ _ st _ → _ => hK; first | (apply hK; clear hK) | (clear hK; rename ∀ st, Tri _ _ _ st _ → _ => hK; first | (apply hK; clear hK) | (clear hK; rename ∀ st, Tri _ _ _ st _ → _ => hK; first | (apply hK; clear hK) | (clear hK; rename ∀ st, Tri _ _ _ st _ → _ => hK; apply hK; clear hK)))))) | skip)
        | (intro β)
        | (rename ∀ st, Tri _ _ _ st _ → _ => hK; apply hK; clear hK))
      refine Tri.ret ⟨_, rfl, ?_⟩
      simp [upd]
      exact Wk.refl _
    · rw [if_neg c, if_pos (by omega)]
      repeat (first
        | (refine Tri.seq fun K hK => ?_)
        | (refine Tri.region ?_; simp [upd, w1, g1, g2, g3, g4])
        | (refine Tri.draw (by kernel_rfl) (by decide +kernel) ?_; simp [upd, w1, g1, g2, g3, g4])
        | (refine Tri.cond_true ?_ ?_; (focus simp [upd, w1, g1, g2, g3, g4]; done))
        | (refine Tri.cond_false ?_ ?_; (focus simp [upd, w1, g1, g2, g3, g4]; done))
        | (refine Tri.skip ?_; simp only [thenS, blockS])
        | (refine Tri.block_seq ?_)
        | (refine Tri.block_region ?_)
        | (refine Tri.block_cond ?_)
        | ((with_reducible refine CallK.pure (in32_does _ _ _) (Wks.refl _) ?_); simp [upd, w1, g1, g2, g3, g4])
        | (refine Tri.exit ?_; simp [upd, w1, g1, g2, g3, g4]; first | (rename ∀ st, Tri _ _ _ st _ → _ => hK; first | (apply hK; clear hK) | (clear hK; rename ∀ st, Tri _ _ _ st _ → _ => hK; first | (apply hK; clear hK) | (clear hK; rename ∀ st, Tri _ _ _ st _ → _ => hK; first | (apply hK; clear hK) | (clear hK; rename ∀ st, Tri _ _ _ st _ → _ => hK; first | (apply hK; clear hK) | (clear hK; rename ∀ st, Tri _ _ _ st _ → _ => hK; first | (apply hK; clear hK) | (clear hK; rename ∀ st, Tri _ _ _ st _ → _ => hK; apply hK; clear hK)))))) | skip)
        | (intro β)
        | (rename ∀ st, Tri _ _ _ st _ → _ => hK; apply hK; clear hK))
      refine Tri.ret ⟨_, rfl, ?_⟩
      simp [upd]
      exact Wk.refl _
  have a4 := inB_t g4
  rw [if_neg (by omega), if_neg (by omega)]
  have w2 : IntKind.i64.wrap (f.per - 1) = f.per - 1 := wrap_i64 (by omega) (by omega)
  cases g5 : inB f.pha 0 (f.per - 1)
  case false =>
    have e := inB_f g5
    by_cases c : f.pha < 0
    · rw [if_pos c]
      repeat (first
        | (refine Tri.seq fun K hK => ?_)
        | (refine Tri.region ?_; simp [upd, w1, w2, g1, g2, g3, g4, g5])
        | (refine Tri.draw (by kernel_rfl) (by decide +kernel) ?_; simp [upd, w1, w2, g1, g2, g3, g4, g5])
        | (refine Tri.cond_true ?_ ?_; (focus simp [upd, w1, w2, g1, g2, g3, g4, g5]; done))
        | (refine Tri.cond_false ?_ ?_; (focus simp [upd, w1, w2, g1, g2, g3, g4, g5]; done))
        | (refine Tri.skip ?_; simp only [thenS, blockS])
        | (refine Tri.block_seq ?_)
        | (refine Tri.block_region ?_)
        | (refine Tri.block_cond ?_)
        | ((with_reducible refine CallK.pure (in32_does _ _ _) (Wks.refl _) ?_); simp [upd, w1, w2, g1, g2, g3, g4, g5])
        | (refine Tri.exit ?_; simp [upd, w1, w2, g1, g2, g3, g4, g5]; first | (rename ∀ st, Tri _ _ _ st _ → _ => hK; first | (apply hK; clear hK) | (clear hK; rename ∀ st, Tri _ _ _ st _ → _ => hK; first | (apply hK; clear hK) | (clear hK; rename ∀ st, Tri _ _ _ st _ → _ => hK; first | (apply hK; clear hK) | (clear hK; rename ∀ st, Tri _ _ _ st _ → _ => hK; first | (apply hK; clear hK) | (clear hK; rename ∀ st, Tri _ _ _ st _ → _ => hK; first | (apply hK; clear hK) | (clear hK; rename ∀ st, Tri _ _ _ st _ → _ => hK; apply hK; clear hK)))))) | skip)
        | (intro β)
        | (rename ∀ st, Tri _ _ _ st _ → _ => hK; apply hK; clear hK))
      refine Tri.ret ⟨_, rfl, ?_⟩
      simp [upd]
      exact Wk.refl _
    · rw [if_neg c, if_pos (by omega)]
      repeat (first
        | (refine Tri.seq fun K hK => ?_)
        | (refine Tri.region ?_; simp [upd, w1, w2, g1, g2, g3, g4, g5])
        | (refine Tri.draw (by kernel_rfl) (by decide +kernel) ?_; simp [upd, w1, w2, g1, g2, g3, g4, g5])
        | (refine Tri.cond_true ?_ ?_; (focus simp [upd, w1, w2, g1, g2, g3, g4, g5]; done))
        | (refine Tri.cond_false ?_ ?_; (focus simp [upd, w1, w2, g1, g2, g3, g4, g5]; done))
        | (refine Tri.skip ?_; simp only [thenS, blockS])
        | (refine Tri.block_seq ?_)
        | (refine Tri.block_region ?_)
        | (refine Tri.block_cond ?_)
        | ((with_reducible refine CallK.pure (in32_does _ _ _) (Wks.refl _) ?_); simp [upd, w1, w2, g1, g2, g3, g4, g5])
        | (refine Tri.exit ?_; simp [upd, w1, w2, g1, g2, g3, g4, g5]; first | (rename ∀ st, Tri _ _ _ st _ → _ => hK; first | (apply hK; clear hK) | (clear hK; rename ∀ st, Tri _ _ _ st _ → _ => hK; first | (apply hK; clear hK) | (clear hK; rename ∀ st, Tri _ _ _ st _ → _ => hK; first | (apply hK; clear hK) | (clear hK; rename ∀ st, Tri _ _ _ st _ → _ => hK; first | (apply hK; clear hK) | (clear hK; rename ∀ st, Tri _ _ _ st _ → _ => hK; first | (apply hK; clear hK) | (clear hK; rename ∀ st, Tri _ _ _ st _ → _ => hK; apply hK; clear hK)))))) | skip)
        | (intro β)
        | (rename ∀ st, Tri _ _ _ st _ → _ => hK; apply hK; clear hK))
      refine Tri.ret ⟨_, rfl, ?_⟩
      simp [upd]
      exact Wk.refl _
  have a5 := inB_t g5
  rw [if_neg (by omega), if_neg (by omega)]
  cases g6 : inB f.dea 1 f.per
  case false =>
    have e := inB_f g6
    by_cases c : f.dea < 1
    · rw [if_pos c]
      repeat (first
        | (refine Tri.seq fun K hK => ?_)
        | (refine Tri.region ?_; simp [upd, w1, w2, g1, g2, g3, g4, g5, g6])
        | (refine Tri.draw (by kernel_rfl) (by decide +kernel) ?_; simp [upd, w1, w2, g1, g2, g3, g4, g5, g6])
        | (refine Tri.cond_true ?_ ?_; (focus simp [upd, w1, w2, g1, g2, g3, g4, g5, g6]; done))
        | (refine Tri.cond_false ?_ ?_; (focus simp [upd, w1, w2, g1, g2, g3, g4, g5, g6]; done))
        | (refine Tri.skip ?_; simp only [thenS, blockS])
        | (refine Tri.block_seq ?_)
        | (refine Tri.block_region ?_)
        | (refine Tri.block_cond ?_)
        | ((with_reducible refine CallK.pure (in32_does _ _ _) (Wks.refl _) ?_); simp [upd, w1, w2, g1, g2, g3, g4, g5, g6])
        | (refine Tri.exit ?_; simp [upd, w1, w2, g1, g2, g3, g4, g5, g6]; first | (rename ∀ st, Tri _ _ _ st _ → _ => hK; first | (apply hK; clear hK) | (clear hK; rename ∀ st, Tri _ _ _ st _ → _ => hK; first | (apply hK; clear hK) | (clear hK; rename ∀ st, Tri _ _ _ st _ → _ => hK; first | (apply hK; clear hK) | (clear hK; rename ∀ st, Tri _ _ _ st _ → _ => hK; first | (apply hK; clear hK) | (clear hK; rename ∀ st, Tri _ _ _ st _ → _ => hK; first | (apply hK; clear hK) | (clear hK; rename ∀ st, Tri _ _ _ st _ → _ => hK; apply hK; clear hK)))))) | skip)
        | (intro β)
        | (rename ∀ st, Tri _ _ _ st _ → _ => hK; apply hK; clear hK))
      refine Tri.ret ⟨_, rfl, ?_⟩
      simp [upd]
      exact Wk.refl _
    · rw [if_neg c, if_pos (by omega)]
      repeat (first
        | (refine Tri.seq fun K hK => ?_)
        | (refine Tri.region ?_; simp [upd, w1, w2, g1, g2, g3, g4, g5, g6])
        | (refine Tri.draw (by kernel_rfl) (by decide +kernel) ?_; simp [upd, w1, w2, g1, g2, g3, g4, g5, g6])
        | (refine Tri.cond_true ?_ ?_; (focus simp [upd, w1, w2, g1, g2, g3, g4, g5, g6]; done))
        | (refine Tri.cond_false ?_ ?_; (focus simp [upd, w1, w2, g1, g2, g3, g4, g5, g6]; done))
        | (refine Tri.skip ?_; simp only [thenS, blockS])
        | (refine Tri.block_seq ?_)
        | (refine Tri.block_region ?_)
        | (refine Tri.block_cond ?_)
        | ((with_reducible refine CallK.pure (in32_does _ _ _) (Wks.refl _) ?_); simp [upd, w1, w2, g1, g2, g3, g4, g5, g6])
        | (refine Tri.exit ?_; simp [upd, w1, w2, g1, g2, g3, g4, g5, g6]; first | (rename ∀ st, Tri _ _ _ st _ → _ => hK; first | (apply hK; clear hK) | (clear hK; rename ∀ st, Tri _ _ _ st _ → _ => hK; first | (apply hK; clear hK) | (clear hK; rename ∀ st, Tri _ _ _ st _ → _ => hK; first | (apply hK; clear hK) | (clear hK; rename ∀ st, Tri _ _ _ st _ → _ => hK; first | (apply hK; clear hK) | (clear hK; rename ∀ st, Tri _ _ _ st _ → _ => hK; first | (apply hK; clear hK) | (clear hK; rename ∀ st, Tri _ _ _ st _ → _ => hK; apply hK; clear hK)))))) | skip)
        | (intro β)
        | (rename ∀ st, Tri _ _ _ st _ → _ => hK; apply hK; clear hK))
      refine Tri.ret ⟨_, rfl, ?_⟩
      simp [upd]
      exact Wk.refl _
  have a6 := inB_t g6
  rw [if_neg (by omega), if_neg (by omega)]
  cases g7 : (f.frm == f.to)
  case true =>
    rw [if_pos (by simpa using g7)]
    repeat (first
      | (refine Tri.seq fun K hK => ?_)
      | (refine Tri.region ?_; simp [upd, w1, w2, g1, g2, g3, g4, g5, g6, g7])
      | (refine Tri.draw (by kernel_rfl) (by decide +kernel) ?_; simp [upd, w1, w2, g1, g2, g3, g4, g5, g6, g7])
      | (refine Tri.cond_true ?_ ?_; (focus simp [upd, w1, w2, g1, g2, g3, g4, g5, g6, g7]; done))
      | (refine Tri.cond_false ?_ ?_; (focus simp [upd, w1, w2, g1, g2, g3, g4, g5, g6, g7]; done))
      | (refine Tri.skip ?_; simp only [thenS, blockS])
      | (refine Tri.block_seq ?_)
      | (refine Tri.block_region ?_)
      | (refine Tri.block_cond ?_)
      | ((with_reducible refine CallK.pure (in32_does _ _ _) (Wks.refl _) ?_); simp [upd, w1, w2, g1, g2, g3, g4, g5, g6, g7])
      | (refine Tri.exit ?_; simp [upd, w1, w2, g1, g2, g3, g4, g5, g6, g7]; first | (rename ∀ st, Tri _ _ _ st _ → _ => hK; first | (apply hK; clear hK) | (clear hK; rename ∀ st, Tri _ _ _ st _ → _ => hK; first | (apply hK; clear hK) | (clear hK; rename ∀ st, Tri _ _ _ st _ → _ => hK; first | (apply hK; clear hK) | (clear hK; rename ∀ st, Tri _ _ _ st _ → _ => hK; first | (apply hK; clear hK) | (clear hK; rename ∀ st, Tri _ _ _ st _ → _ => hK; first | (apply hK; clear hK) | (clear hK; rename ∀ st, Tri _ _ _ st _ → _ => hK; apply hK; clear hK)))))) | skip)
      | (intro β)
      | (rename ∀ st, Tri _ _ _ st _ → _ => hK; apply hK; clear hK))
    refine Tri.ret ⟨_, rfl, ?_⟩
    simp [upd]
    exact Wk.refl _
  rw [if_neg (by simpa using g7)]
  repeat (first
    | (refine Tri.seq fun K hK => ?_)
    | (refine Tri.region ?_; simp [upd, w1, w2, g1, g2, g3, g4, g5, g6, g7])
    | (refine Tri.draw (by kernel_rfl) (by decide +kernel) ?_; simp [upd, w1, w2, g1, g2, g3, g4, g5, g6, g7])
    | (refine Tri.cond_true ?_ ?_; (focus simp [upd, w1, w2, g1, g2, g3, g4, g5, g6, g7]; done))
    | (refine Tri.cond_false ?_ ?_; (focus simp [upd, w1, w2, g1, g2, g3, g4, g5, g6, g7]; done))
    | (refine Tri.skip ?_; simp only [thenS, blockS])
    | (refine Tri.block_seq ?_)
    | (refine Tri.block_region ?_)
    | (refine Tri.block_cond ?_)
    | ((with_reducible refine CallK.pure (in32_does _ _ _) (Wks.refl _) ?_); simp [upd, w1, w2, g1, g2, g3, g4, g5, g6, g7])
    | (refine Tri.exit ?_; simp [upd, w1, w2, g1, g2, g3, g4, g5, g6, g7]; first | (rename ∀ st, Tri _ _ _ st _ → _ => hK; first | (apply hK; clear hK) | (clear hK; rename ∀ st, Tri _ _ _ st _ → _ => hK; first | (apply hK; clear hK) | (clear hK; rename ∀ st, Tri _ _ _ st _ → _ => hK; first | (apply hK; clear hK) | (clear hK; rename ∀ st, Tri _ _ _ st _ → _ => hK; first | (apply hK; clear hK) | (clear hK; rename ∀ st, Tri _ _ _ st _ → _ => hK; first | (apply hK; clear hK) | (clear hK; rename ∀ st, Tri _ _ _ st _ → _ => hK; apply hK; clear hK)))))) | skip)
    | (intro β)
    | (rename ∀ st, Tri _ _ _ st _ → _ => hK; apply hK; clear hK))
  refine Tri.ret ⟨_, rfl, ?_⟩
  simp [upd]
  exact Wk.refl _
theorem relR_does (f : Flo) (k : Int) (h : FloP 32 f) (h0 : 0 ≤ k) (h1 : k ≤ 1048576) : Does Try.prog 47 [.agg (floC f), .c (.int .i64 k)] (.c (.int .i64 (relI f k))) := by
  refine Does.of_body Try.func47 rfl (by kernel_rfl) rfl rfl (by simp) ?_
  intro E
  have a1 := rel_lo h h0 h1
  have a2 := relI_b h h0 h1
  unfold relI at a2 ⊢
  have w1 : IntKind.i64.wrap (k * f.per) = k * f.per := wrap_i64 (by omega) (by omega)
  have w2 : IntKind.i64.wrap (f.pha + k * f.per) = f.pha + k * f.per := wrap_i64 (by omega) (by omega)
  repeat (first
    | (refine Tri.seq fun K hK => ?_)
    | (refine Tri.region ?_; simp [upd, w1, w2])
    | (refine Tri.draw (by kernel_rfl) (by decide +kernel) ?_; simp [upd, w1, w2])
    | (refine Tri.cond_true ?_ ?_; (focus simp [upd, w1, w2]; done))
    | (refine Tri.cond_false ?_ ?_; (focus simp [upd, w1, w2]; done))
    | (refine Tri.skip ?_; simp only [thenS, blockS])
    | (refine Tri.block_seq ?_)
    | (refine Tri.block_region ?_)
    | (refine Tri.block_cond ?_)
    | (refine Tri.exit ?_; simp [upd, w1, w2]; first | (rename ∀ st, Tri _ _ _ st _ → _ => hK; first | (apply hK; clear hK) | (clear hK; rename ∀ st, Tri _ _ _ st _ → _ => hK; first | (apply hK; clear hK) | (clear hK; rename ∀ st, Tri _ _ _ st _ → _ => hK; first | (apply hK; clear hK) | (clear hK; rename ∀ st, Tri _ _ _ st _ → _ => hK; first | (apply hK; clear hK) | (clear hK; rename ∀ st, Tri _ _ _ st _ → _ => hK; first | (apply hK; clear hK) | (clear hK; rename ∀ st, Tri _ _ _ st _ → _ => hK; apply hK; clear hK)))))) | skip)
    | (intro β)
    | (rename ∀ st, Tri _ _ _ st _ → _ => hK; apply hK; clear hK))
  refine Tri.ret ⟨_, rfl, ?_⟩
  simp [upd]
  exact Wk.refl _
theorem currentR_does (f : Flo) (s : Int) (h : fault 32 f = 0) (h0 : 0 ≤ s) (h1 : s ≤ 4096) : Does Try.prog 65 [.agg (floC f), .c (.int .i64 s)] (.tup (curI f s)) := by
  refine Does.of_body Try.func65 rfl (by kernel_rfl) rfl rfl (by simp) ?_
  intro E
  have hp := fault_ok h
  have hl := faultR_does 32 f (by omega) (by omega)
  rw [h] at hl
  unfold curI
  by_cases g1 : s < f.pha
  · rw [if_pos g1]
    have g3 : inB s f.pha 1099511627776 = false := by
      cases hc : inB s f.pha 1099511627776
      · rfl
      · have := inB_t hc; omega
    repeat (first
      | (refine Tri.seq fun K hK => ?_)
      | (refine Tri.region ?_; simp [upd, g3])
      | (refine Tri.draw (by kernel_rfl) (by decide +kernel) ?_; simp [upd, g3])
      | (refine Tri.cond_true ?_ ?_; (focus simp [upd, g3]; done))
      | (refine Tri.cond_false ?_ ?_; (focus simp [upd, g3]; done))
      | (refine Tri.skip ?_; simp only [thenS, blockS])
      | (refine Tri.block_seq ?_)
      | (refine Tri.block_region ?_)
      | (refine Tri.block_cond ?_)
      | ((with_reducible refine CallK.pure (hl) (Wks.refl _) ?_); simp [upd, g3])
      | ((with_reducible refine CallK.pure (in32_does _ _ _) (Wks.refl _) ?_); simp [upd, g3])
      | (refine Tri.exit ?_; simp [upd, g3]; first | (rename ∀ st, Tri _ _ _ st _ → _ => hK; first | (apply hK; clear hK) | (clear hK; rename ∀ st, Tri _ _ _ st _ → _ => hK; first | (apply hK; clear hK) | (clear hK; rename ∀ st, Tri _ _ _ st _ → _ => hK; first | (apply hK; clear hK) | (clear hK; rename ∀ st, Tri _ _ _ st _ → _ => hK; first | (apply hK; clear hK) | (clear hK; rename ∀ st, Tri _ _ _ st _ → _ => hK; first | (apply hK; clear hK) | (clear hK; rename ∀ st, Tri _ _ _ st _ → _ => hK; apply hK; clear hK)))))) | skip)
      | (intro β)
      | (rename ∀ st, Tri _ _ _ st _ → _ => hK; apply hK; clear hK))
    refine Tri.ret ⟨_, rfl, ?_⟩
    simp [upd]
    exact Wk.refl _
  rw [if_neg g1]
  have a1 := hp.h0
  have a2 := hp.p1
  have a3 : f.per ≠ 0 := by omega
  have w1 : IntKind.i64.wrap (s - f.pha) = s - f.pha := wrap_i64 (by omega) (by omega)
  have b0 : 0 ≤ (s - f.pha).tdiv f.per := Int.tdiv_nonneg (by omega) (by omega)
  have b1 : (s - f.pha).tdiv f.per ≤ s - f.pha := Int.tdiv_le_self _ (by omega)
  have w2 : IntKind.i64.wrap ((s - f.pha).tdiv f.per) = (s - f.pha).tdiv f.per := wrap_i64 (by omega) (by omega)
  have g3 : inB s f.pha 1099511627776 = true := by
    cases hc : inB s f.pha 1099511627776
    · have := inB_f hc; omega
    · rfl
  repeat (first
    | (refine Tri.seq fun K hK => ?_)
    | (refine Tri.region ?_; simp [upd, g3, w1, w2, a3])
    | (refine Tri.draw (by kernel_rfl) (by decide +kernel) ?_; simp [upd, g3, w1, w2, a3])
    | (refine Tri.cond_true ?_ ?_; (focus simp [upd, g3, w1, w2, a3]; done))
    | (refine Tri.cond_false ?_ ?_; (focus simp [upd, g3, w1, w2, a3]; done))
    | (refine Tri.skip ?_; simp only [thenS, blockS])
    | (refine Tri.block_seq ?_)
    | (refine Tri.block_region ?_)
    | (refine Tri.block_cond ?_)
    | ((with_reducible refine CallK.pure (hl) (Wks.refl _) ?_); simp [upd, g3, w1, w2, a3])
    | ((with_reducible refine CallK.pure (in32_does _ _ _) (Wks.refl _) ?_); simp [upd, g3, w1, w2, a3])
    | (refine Tri.exit ?_; simp [upd, g3, w1, w2, a3]; first | (rename ∀ st, Tri _ _ _ st _ → _ => hK; first | (apply hK; clear hK) | (clear hK; rename ∀ st, Tri _ _ _ st _ → _ => hK; first | (apply hK; clear hK) | (clear hK; rename ∀ st, Tri _ _ _ st _ → _ => hK; first | (apply hK; clear hK) | (clear hK; rename ∀ st, Tri _ _ _ st _ → _ => hK; first | (apply hK; clear hK) | (clear hK; rename ∀ st, Tri _ _ _ st _ → _ => hK; first | (apply hK; clear hK) | (clear hK; rename ∀ st, Tri _ _ _ st _ → _ => hK; apply hK; clear hK)))))) | skip)
    | (intro β)
    | (rename ∀ st, Tri _ _ _ st _ → _ => hK; apply hK; clear hK))
  refine Tri.ret ⟨_, rfl, ?_⟩
  simp [upd]
  exact Wk.refl _
def KC (n : Int) (l : List Flo) (nl : Bool) (m : Nat) (st : St) : Prop := ∃ i : Nat, m + i = l.length ∧ st.n = 47 ∧ st.sl 0 = .c (.int .i64 n) ∧ st.sl 1 = .c (.sl nl 6 none (l.map floC)) ∧ st.sl 6 = .c (.int .i64 (i : Nat)) ∧
      flowsGo n none l 0 = flowsGo n (if i = 0 then none else l[i-1]?) (l.drop i) i
theorem check71_does (n : Int) (l : List Flo) (nl : Bool) : Does Try.prog 71 [.c (.int .i64 n), .c (.sl nl 6 none (l.map floC))] (tup2 (flowsCheck n l)) := by
  refine Does.of_body Try.func71 rfl (by kernel_rfl) rfl rfl (by simp) ?_
  intro E
  unfold flowsCheck
  cases g0 : inB n 2 32
  case false =>
    have := inB_f g0
    rw [if_pos (by omega)]
    repeat (first
      | (refine Tri.seq fun K hK => ?_)
      | (refine Tri.region ?_; simp [upd, g0])
      | (refine Tri.draw (by kernel_rfl) (by decide +kernel) ?_; simp [upd, g0])
      | (refine Tri.cond_true ?_ ?_; (focus simp [upd, g0]; done))
      | (refine Tri.cond_false ?_ ?_; (focus simp [upd, g0]; done))
      | (refine Tri.skip ?_; simp only [thenS, blockS])
      | (refine Tri.block_seq ?_)
      | (refine Tri.block_region ?_)
      | (refine Tri.block_cond ?_)
      | ((with_reducible refine CallK.pure (in32_does _ _ _) (Wks.refl _) ?_); simp [upd, g0])
      | (refine Tri.exit ?_; simp [upd, g0]; first | (rename ∀ st, Tri _ _ _ st _ → _ => hK; first | (apply hK; clear hK) | (clear hK; rename ∀ st, Tri _ _ _ st _ → _ => hK; first | (apply hK; clear hK) | (clear hK; rename ∀ st, Tri _ _ _ st _ → _ => hK; first | (apply hK; clear hK) | (clear hK; rename ∀ st, Tri _ _ _ st _ → _ => hK; first | (apply hK; clear hK) | (clear hK; rename ∀ st, Tri _ _ _ st _ → _ => hK; first | (apply hK; clear hK) | (clear hK; rename ∀ st, Tri _ _ _ st _ → _ => hK; apply hK; clear hK)))))) | skip)
      | (intro β)
      | (rename ∀ st, Tri _ _ _ st _ → _ => hK; apply hK; clear hK))
    refine Tri.ret ⟨_, rfl, ?_⟩
    simp [upd]
    exact Wk.refl _
  have a0 := inB_t g0
  rw [if_neg (by omega)]
  by_cases g3 : (16 : Int) < (l.length : Int)
  · rw [if_pos (by omega)]
    repeat (first
      | (refine Tri.seq fun K hK => ?_)
      | (refine Tri.region ?_; simp [upd, g0, g3])
      | (refine Tri.draw (by kernel_rfl) (by decide +kernel) ?_; simp [upd, g0, g3])
      | (refine Tri.cond_true ?_ ?_; (focus simp [upd, g0, g3]; done))
      | (refine Tri.cond_false ?_ ?_; (focus simp [upd, g0, g3]; done))
      | (refine Tri.skip ?_; simp only [thenS, blockS])
      | (refine Tri.block_seq ?_)
      | (refine Tri.block_region ?_)
      | (refine Tri.block_cond ?_)
      | ((with_reducible refine CallK.pure (in32_does _ _ _) (Wks.refl _) ?_); simp [upd, g0, g3])
      | (refine Tri.exit ?_; simp [upd, g0, g3]; first | (rename ∀ st, Tri _ _ _ st _ → _ => hK; first | (apply hK; clear hK) | (clear hK; rename ∀ st, Tri _ _ _ st _ → _ => hK; first | (apply hK; clear hK) | (clear hK; rename ∀ st, Tri _ _ _ st _ → _ => hK; first | (apply hK; clear hK) | (clear hK; rename ∀ st, Tri _ _ _ st _ → _ => hK; first | (apply hK; clear hK) | (clear hK; rename ∀ st, Tri _ _ _ st _ → _ => hK; first | (apply hK; clear hK) | (clear hK; rename ∀ st, Tri _ _ _ st _ → _ => hK; apply hK; clear hK)))))) | skip)
      | (intro β)
      | (rename ∀ st, Tri _ _ _ st _ → _ => hK; apply hK; clear hK))
    refine Tri.ret ⟨_, rfl, ?_⟩
    simp [upd]
    exact Wk.refl _
  rw [if_neg (by omega)]
  repeat (first
    | (refine Tri.seq fun K hK => ?_)
    | (refine Tri.region ?_; simp [upd, g0, g3])
    | (refine Tri.draw (by kernel_rfl) (by decide +kernel) ?_; simp [upd, g0, g3])
    | (refine Tri.cond_true ?_ ?_; (focus simp [upd, g0, g3]; done))
    | (refine Tri.cond_false ?_ ?_; (focus simp [upd, g0, g3]; done))
    | (refine Tri.skip ?_; simp only [thenS, blockS])
    | (refine Tri.block_seq ?_)
    | (refine Tri.block_region ?_)
    | (refine Tri.block_cond ?_)
    | ((with_reducible refine CallK.pure (in32_does _ _ _) (Wks.refl _) ?_); simp [upd, g0, g3])
    | (refine Tri.exit ?_; simp [upd, g0, g3]; first | (rename ∀ st, Tri _ _ _ st _ → _ => hK; first | (apply hK; clear hK) | (clear hK; rename ∀ st, Tri _ _ _ st _ → _ => hK; first | (apply hK; clear hK) | (clear hK; rename ∀ st, Tri _ _ _ st _ → _ => hK; first | (apply hK; clear hK) | (clear hK; rename ∀ st, Tri _ _ _ st _ → _ => hK; first | (apply hK; clear hK) | (clear hK; rename ∀ st, Tri _ _ _ st _ → _ => hK; first | (apply hK; clear hK) | (clear hK; rename ∀ st, Tri _ _ _ st _ → _ => hK; apply hK; clear hK)))))) | skip)
    | (intro β)
    | (rename ∀ st, Tri _ _ _ st _ → _ => hK; apply hK; clear hK))
  rename ∀ st, Tri _ _ _ st _ → _ => hK
  have fin := fun (st : St) (h : st.n = 47 ∧ flowsGo n none l 0 = (-1, 0)) => hK st ?tail
  case tail =>
    obtain ⟨hn, e⟩ := h
    rw [e]
    repeat (first
      | (refine Tri.seq fun K hK => ?_)
      | (refine Tri.region ?_; simp [upd, hn])
      | (refine Tri.draw (by kernel_rfl) (by decide +kernel) ?_; simp [upd, hn])
      | (refine Tri.cond_true ?_ ?_; (focus simp [upd, hn]; done))
      | (refine Tri.cond_false ?_ ?_; (focus simp [upd, hn]; done))
      | (refine Tri.skip ?_; simp only [thenS, blockS])
      | (refine Tri.block_seq ?_)
      | (refine Tri.block_region ?_)
      | (refine Tri.block_cond ?_)
      | (refine Tri.exit ?_; simp [upd, hn]; first | (rename ∀ st, Tri _ _ _ st _ → _ => hK; first | (apply hK; clear hK) | (clear hK; rename ∀ st, Tri _ _ _ st _ → _ => hK; first | (apply hK; clear hK) | (clear hK; rename ∀ st, Tri _ _ _ st _ → _ => hK; first | (apply hK; clear hK) | (clear hK; rename ∀ st, Tri _ _ _ st _ → _ => hK; first | (apply hK; clear hK) | (clear hK; rename ∀ st, Tri _ _ _ st _ → _ => hK; first | (apply hK; clear hK) | (clear hK; rename ∀ st, Tri _ _ _ st _ → _ => hK; apply hK; clear hK)))))) | skip)
      | (intro β)
      | (rename ∀ st, Tri _ _ _ st _ → _ => hK; apply hK; clear hK))
    refine Tri.ret ⟨_, rfl, ?_⟩
    simp [upd]
    exact Wk.refl _
  clear hK
  refine Tri.block (Tri.loop (KC n l nl) l.length ⟨0, rfl, rfl, by simp [upd], by simp [upd], by simp [upd], by simp⟩ ?_)
  rintro m st ⟨k, hm, hn, s0, s1, s6, hgo⟩
  by_cases hk : k < l.length
  case neg =>
    repeat (first
      | (refine Tri.seq fun K hK => ?_)
      | (refine Tri.region ?_; simp [upd, hn, s0, s1, s6, hk])
      | (refine Tri.draw (by kernel_rfl) (by decide +kernel) ?_; simp [upd, hn, s0, s1, s6, hk])
      | (refine Tri.cond_true ?_ ?_; (focus simp [upd, hn, s0, s1, s6, hk]; done))
      | (refine Tri.cond_false ?_ ?_; (focus simp [upd, hn, s0, s1, s6, hk]; done))
      | (refine Tri.skip ?_; simp only [thenS, blockS])
      | (refine Tri.block_seq ?_)
      | (refine Tri.block_region ?_)
      | (refine Tri.block_cond ?_)
      | (refine Tri.exit ?_; simp [upd, hn, s0, s1, s6, hk]; first | (rename ∀ st, Tri _ _ _ st _ → _ => hK; first | (apply hK; clear hK) | (clear hK; rename ∀ st, Tri _ _ _ st _ → _ => hK; first | (apply hK; clear hK) | (clear hK; rename ∀ st, Tri _ _ _ st _ → _ => hK; first | (apply hK; clear hK) | (clear hK; rename ∀ st, Tri _ _ _ st _ → _ => hK; first | (apply hK; clear hK) | (clear hK; rename ∀ st, Tri _ _ _ st _ → _ => hK; first | (apply hK; clear hK) | (clear hK; rename ∀ st, Tri _ _ _ st _ → _ => hK; apply hK; clear hK)))))) | skip)
      | (intro β)
      | (rename ∀ st, Tri _ _ _ st _ → _ => hK; apply hK; clear hK))
    apply fin
    refine ⟨rfl, ?_⟩
    rw [hgo, List.drop_of_length_le (by omega), flowsGo_nil]
  have hw1 : IntKind.i64.wrap ((k : Int) + 1) = (k : Int) + 1 := wrap_i64 (by omega) (by omega)
  have hd : l.drop k = l[k] :: l.drop (k + 1) := List.drop_eq_getElem_cons hk
  rw [hd, flowsGo] at hgo
  have hfl := faultR_does n l[k] (by omega) (by omega)
  cases hf : (fault n l[k] == 0)
  case false =>
    rw [if_neg (by simpa using hf)] at hgo
    rw [hgo]
    repeat (first
      | (refine Tri.seq fun K hK => ?_)
      | (refine Tri.region ?_; simp [upd, hn, s0, s1, s6, hk, bne, hf])
      | (refine Tri.draw (by kernel_rfl) (by decide +kernel) ?_; simp [upd, hn, s0, s1, s6, hk, bne, hf])
      | (refine Tri.cond_true ?_ ?_; (focus simp [upd, hn, s0, s1, s6, hk, bne, hf]; done))
      | (refine Tri.cond_false ?_ ?_; (focus simp [upd, hn, s0, s1, s6, hk, bne, hf]; done))
      | (refine Tri.skip ?_; simp only [thenS, blockS])
      | (refine Tri.block_seq ?_)
      | (refine Tri.block_region ?_)
      | (refine Tri.block_cond ?_)
      | ((with_reducible refine CallK.pure (hfl) (Wks.refl _) ?_); simp [upd, hn, s0, s1, s6, hk, bne, hf])
      | (refine Tri.exit ?_; simp [upd, hn, s0, s1, s6, hk, bne, hf]; first | (rename ∀ st, Tri _ _ _ st _ → _ => hK; first | (apply hK; clear hK) | (clear hK; rename ∀ st, Tri _ _ _ st _ → _ => hK; first | (apply hK; clear hK) | (clear hK; rename ∀ st, Tri _ _ _ st _ → _ => hK; first | (apply hK; clear hK) | (clear hK; rename ∀ st, Tri _ _ _ st _ → _ => hK; first | (apply hK; clear hK) | (clear hK; rename ∀ st, Tri _ _ _ st _ → _ => hK; first | (apply hK; clear hK) | (clear hK; rename ∀ st, Tri _ _ _ st _ → _ => hK; apply hK; clear hK)))))) | skip)
      | (intro β)
      | (rename ∀ st, Tri _ _ _ st _ → _ => hK; apply hK; clear hK))
    refine Tri.ret ⟨_, rfl, ?_⟩
    simp [upd]
    exact Wk.refl _
  rw [if_pos (by simpa using hf)] at hgo
  cases k with
  | zero =>
    simp only [if_true, notUp] at hgo
    rw [if_neg (by simp)] at hgo
    rw [hgo]
    repeat (first
      | (refine Tri.seq fun K hK => ?_)
      | (refine Tri.region ?_; simp [upd, hn, s0, s1, s6, hk, bne, hf, hw1])
      | (refine Tri.draw (by kernel_rfl) (by decide +kernel) ?_; simp [upd, hn, s0, s1, s6, hk, bne, hf, hw1])
      | (refine Tri.draw2 [] [0, 1, 2, 3, 4, 5, 6, 7, 8, 9, 10, 11, 12, 13, 14, 15] [] [] (by kernel_rfl) (by kernel_rfl) (by decide) (by rfl) (by decide +kernel) ?_; simp [upd, hn, s0, s1, s6, hk, bne, hf, hw1])
      | (refine Tri.cond_true ?_ ?_; (focus simp [upd, hn, s0, s1, s6, hk, bne, hf, hw1]; done))
      | (refine Tri.cond_false ?_ ?_; (focus simp [upd, hn, s0, s1, s6, hk, bne, hf, hw1]; done))
      | (refine Tri.skip ?_; simp only [thenS, blockS])
      | (refine Tri.block_seq ?_)
      | (refine Tri.block_region ?_)
      | (refine Tri.block_cond ?_)
      | ((with_reducible refine CallK.pure (hfl) (Wks.refl _) ?_); simp [upd, hn, s0, s1, s6, hk, bne, hf, hw1])
      | (refine Tri.exit ?_; simp [upd, hn, s0, s1, s6, hk, bne, hf, hw1]; first | (rename ∀ st, Tri _ _ _ st _ → _ => hK; first | (apply hK; clear hK) | (clear hK; rename ∀ st, Tri _ _ _ st _ → _ => hK; first | (apply hK; clear hK) | (clear hK; rename ∀ st, Tri _ _ _ st _ → _ => hK; first | (apply hK; clear hK) | (clear hK; rename ∀ st, Tri _ _ _ st _ → _ => hK; first | (apply hK; clear hK) | (clear hK; rename ∀ st, Tri _ _ _ st _ → _ => hK; first | (apply hK; clear hK) | (clear hK; rename ∀ st, Tri _ _ _ st _ → _ => hK; apply hK; clear hK)))))) | skip)
      | (intro β)
      | (rename ∀ st, Tri _ _ _ st _ → _ => hK; apply hK; clear hK))
    exact ⟨m - 1, by omega, 1, by omega, rfl, by simp [upd, s0], by simp [upd, s1], by simp [upd], by simpa [hk] using hgo⟩
  | succ j =>
    have hj : j < l.length := by omega
    have hki : (j : Int) + 1 < (l.length : Int) := by omega
    have hw : IntKind.i64.wrap (j : Int) = j := wrap_i64 (by omega) (by omega)
    simp only [Nat.add_eq_zero_iff, Nat.one_ne_zero, and_false, if_false, Nat.add_sub_cancel, List.getElem?_eq_getElem hj, notUp] at hgo
    have hp : (0 : Int) < (j : Int) + 1 := by omega
    have hp0 : (0 : Int) ≤ (j : Int) + 1 := by omega
    by_cases hq : l[j + 1].id ≤ l[j].id
    · rw [if_pos (by simpa using hq)] at hgo
      rw [hgo]
      repeat (first
        | (refine Tri.seq fun K hK => ?_)
        | (refine Tri.region ?_; simp [upd, hn, s0, s1, s6, hk, hki, bne, hf, hj, hw, hp, hp0, hq])
        | (refine Tri.draw (by kernel_rfl) (by decide +kernel) ?_; simp [upd, hn, s0, s1, s6, hk, hki, bne, hf, hj, hw, hp, hp0, hq])
        | (refine Tri.draw2 [] [0, 1, 2, 3, 4, 5, 6, 7, 8, 9, 10, 11, 12, 13, 14, 15] [] [] (by kernel_rfl) (by kernel_rfl) (by decide) (by rfl) (by decide +kernel) ?_; simp [upd, hn, s0, s1, s6, hk, hki, bne, hf, hj, hw, hp, hp0, hq])
        | (refine Tri.cond_true ?_ ?_; (focus simp [upd, hn, s0, s1, s6, hk, hki, bne, hf, hj, hw, hp, hp0, hq]; done))
        | (refine Tri.cond_false ?_ ?_; (focus simp [upd, hn, s0, s1, s6, hk, hki, bne, hf, hj, hw, hp, hp0, hq]; done))
        | (refine Tri.skip ?_; simp only [thenS, blockS])
        | (refine Tri.block_seq ?_)
        | (refine Tri.block_region ?_)
        | (refine Tri.block_cond ?_)
        | ((with_reducible refine CallK.pure (hfl) (Wks.refl _) ?_); simp [upd, hn, s0, s1, s6, hk, hki, bne, hf, hj, hw, hp, hp0, hq])
        | (refine Tri.exit ?_; simp [upd, hn, s0, s1, s6, hk, hki, bne, hf, hj, hw, hp, hp0, hq]; first | (rename ∀ st, Tri _ _ _ st _ → _ => hK; first | (apply hK; clear hK) | (clear hK; rename ∀ st, Tri _ _ _ st _ → _ => hK; first | (apply hK; clear hK) | (clear hK; rename ∀ st, Tri _ _ _ st _ → _ => hK; first | (apply hK; clear hK) | (clear hK; rename ∀ st, Tri _ _ _ st _ → _ => hK; first | (apply hK; clear hK) | (clear hK; rename ∀ st, Tri _ _ _ st _ → _ => hK; first | (apply hK; clear hK) | (clear hK; rename ∀ st, Tri _ _ _ st _ → _ => hK; apply hK; clear hK)))))) | skip)
        | (intro β)
        | (rename ∀ st, Tri _ _ _ st _ → _ => hK; apply hK; clear hK))
      refine Tri.ret ⟨_, rfl, ?_⟩
      simp [upd]
      exact Wk.refl _
    · rw [if_neg (by simpa using hq)] at hgo
      rw [hgo]
      repeat (first
        | (refine Tri.seq fun K hK => ?_)
        | (refine Tri.region ?_; simp [upd, hn, s0, s1, s6, hk, hki, bne, hf, hj, hw, hp, hp0, hq, hw1])
        | (refine Tri.draw (by kernel_rfl) (by decide +kernel) ?_; simp [upd, hn, s0, s1, s6, hk, hki, bne, hf, hj, hw, hp, hp0, hq, hw1])
        | (refine Tri.draw2 [] [0, 1, 2, 3, 4, 5, 6, 7, 8, 9, 10, 11, 12, 13, 14, 15] [] [] (by kernel_rfl) (by kernel_rfl) (by decide) (by rfl) (by decide +kernel) ?_; simp [upd, hn, s0, s1, s6, hk, hki, bne, hf, hj, hw, hp, hp0, hq, hw1])
        | (refine Tri.cond_true ?_ ?_; (focus simp [upd, hn, s0, s1, s6, hk, hki, bne, hf, hj, hw, hp, hp0, hq, hw1]; done))
        | (refine Tri.cond_false ?_ ?_; (focus simp [upd, hn, s0, s1, s6, hk, hki, bne, hf, hj, hw, hp, hp0, hq, hw1]; done))
        | (refine Tri.skip ?_; simp only [thenS, blockS])
        | (refine Tri.block_seq ?_)
        | (refine Tri.block_region ?_)
        | (refine Tri.block_cond ?_)
        | ((with_reducible refine CallK.pure (hfl) (Wks.refl _) ?_); simp [upd, hn, s0, s1, s6, hk, hki, bne, hf, hj, hw, hp, hp0, hq, hw1])
        | (refine Tri.exit ?_; simp [upd, hn, s0, s1, s6, hk, hki, bne, hf, hj, hw, hp, hp0, hq, hw1]; first | (rename ∀ st, Tri _ _ _ st _ → _ => hK; first | (apply hK; clear hK) | (clear hK; rename ∀ st, Tri _ _ _ st _ → _ => hK; first | (apply hK; clear hK) | (clear hK; rename ∀ st, Tri _ _ _ st _ → _ => hK; first | (apply hK; clear hK) | (clear hK; rename ∀ st, Tri _ _ _ st _ → _ => hK; first | (apply hK; clear hK) | (clear hK; rename ∀ st, Tri _ _ _ st _ → _ => hK; first | (apply hK; clear hK) | (clear hK; rename ∀ st, Tri _ _ _ st _ → _ => hK; apply hK; clear hK)))))) | skip)
        | (intro β)
        | (rename ∀ st, Tri _ _ _ st _ → _ => hK; apply hK; clear hK))
      exact ⟨m - 1, by omega, j + 2, by omega, rfl, by simp [upd, s0], by simp [upd, s1], by simp [upd]; exact wrap_i64 (by omega) (by omega), by simpa [hk] using hgo⟩
end Go.Proofs.Ytngbpmiikpjiaaa
end
section
open Go Go.Vm
namespace Go.Proofs.Ytngbpmiikpjiaaa
set_option maxRecDepth 100000
set_option maxHeartbeats 4000000
set_option linter.unusedSimpArgs false
def ofF (flow frame : Int) (l : List Att) : List Att := l.filter fun a => a.flow == flow && a.frame == frame
theorem ofF_all (r : Rec) (flow frame : Int) : attsOf r flow frame = ofF flow frame r.atts := rfl
theorem ofF_take (flow frame : Int) (l : List Att) (k : Nat) (hk : k < l.length) : ofF flow frame (l.take (k + 1)) = ofF flow frame (l.take k) ++ (if l[k].flow = flow ∧ l[k].frame = frame then [l[k]] else []) := by
  rw [List.take_succ_eq_append_getElem hk]
  unfold ofF
  rw [List.filter_append]
  by_cases h : l[k].flow = flow ∧ l[k].frame = frame <;> simp [h]
theorem ofF_le (flow frame : Int) (l : List Att) : (ofF flow frame l).length ≤ l.length := List.length_filter_le ..
attribute [local irreducible] Tri Does DoesB Rounds ofF attsOf
structure TI (r : Rec) (flow frame : Int) (st : St) (b3 : Nat) (G : C) : Prop where
  hn : st.n = 40
  s1 : st.sl 1 = .c (.int .i64 flow)
  s2 : st.sl 2 = .c (.int .i64 frame)
  s3 : st.sl 3 = .c (.box 3 b3 0)
  x3 : st.bx 3 = some (b3, [.int .i64 r.slots, .sl r.an 8 none (r.atts.map attC), .sl r.dn 3 none (r.dels.map delC)])
  s7 : st.sl 7 = .c G
def TInv (r : Rec) (flow frame : Int) (m : Nat) (st : St) : Prop := ∃ b3 G i, TI r flow frame st b3 G ∧ m + i = r.atts.length ∧ st.sl 8 = .c (.int .i64 (i : Nat)) ∧ GC st G 38 66 8 ((ofF flow frame (r.atts.take i)).map attC)
theorem attemptsR_does (r : Rec) (flow frame : Int) (hl : r.atts.length ≤ 1073741824) : Does Try.prog 86 [.agg (recC r), .c (.int .i64 flow), .c (.int .i64 frame)] (.c (.sl (attsOf r flow frame).isEmpty 8 none ((attsOf r flow frame).map attC))) := by
  refine Does.of_body Try.func86 rfl (by kernel_rfl) rfl rfl (by simp) ?_
  intro E
  rw [ofF_all]
  simp only [recC]
  repeat (first
    | (refine Tri.seq fun K hK => ?_)
    | (refine Tri.region ?_; simp [upd])
    | (refine Tri.draw (by kernel_rfl) (by decide +kernel) ?_; simp [upd])
    | (refine Tri.cond_true ?_ ?_; (focus simp [upd]; done))
    | (refine Tri.cond_false ?_ ?_; (focus simp [upd]; done))
    | (refine Tri.skip ?_; simp only [thenS, blockS])
    | (refine Tri.block_seq ?_)
    | (refine Tri.block_region ?_)
    | (refine Tri.block_cond ?_)
    | (refine Tri.exit ?_; simp [upd]; first | (rename ∀ st, Tri _ _ _ st _ → _ => hK; first | (apply hK; clear hK) | (clear hK; rename ∀ st, Tri _ _ _ st _ → _ => hK; first | (apply hK; clear hK) | (clear hK; rename ∀ st, Tri _ _ _ st _ → _ => hK; first | (apply hK; clear hK) | (clear hK; rename ∀ st, Tri _ _ _ st _ → _ => hK; first | (apply hK; clear hK) | (clear hK; rename ∀ st, Tri _ _ _ st _ → _ => hK; first | (apply hK; clear hK) | (clear hK; rename ∀ st, Tri _ _ _ st _ → _ => hK; apply hK; clear hK)))))) | skip)
    | (intro β)
    | (rename ∀ st, Tri _ _ _ st _ → _ => hK; apply hK; clear hK))
  rename ∀ st, Tri _ _ _ st _ → _ => hK
  have fin := fun (st : St) (h : ∃ G, st.n = 40 ∧ st.sl 7 = .c G ∧ GC st G 38 66 8 ((ofF flow frame r.atts).map attC)) => hK st ?tail
  case tail =>
    obtain ⟨G, hn, s7, hG⟩ := h
    have wG : Wk (.c G) (.c (.sl (ofF flow frame r.atts).isEmpty 8 none ((ofF flow frame r.atts).map attC))) := by simpa using GC.wk hG
    repeat (first
      | (refine Tri.seq fun K hK => ?_)
      | (refine Tri.region ?_; simp [upd, hn, s7])
      | (refine Tri.draw (by kernel_rfl) (by decide +kernel) ?_; simp [upd, hn, s7])
      | (refine Tri.cond_true ?_ ?_; (focus simp [upd, hn, s7]; done))
      | (refine Tri.cond_false ?_ ?_; (focus simp [upd, hn, s7]; done))
      | (refine Tri.skip ?_; simp only [thenS, blockS])
      | (refine Tri.block_seq ?_)
      | (refine Tri.block_region ?_)
      | (refine Tri.block_cond ?_)
      | (refine Tri.exit ?_; simp [upd, hn, s7]; first | (rename ∀ st, Tri _ _ _ st _ → _ => hK; first | (apply hK; clear hK) | (clear hK; rename ∀ st, Tri _ _ _ st _ → _ => hK; first | (apply hK; clear hK) | (clear hK; rename ∀ st, Tri _ _ _ st _ → _ => hK; first | (apply hK; clear hK) | (clear hK; rename ∀ st, Tri _ _ _ st _ → _ => hK; first | (apply hK; clear hK) | (clear hK; rename ∀ st, Tri _ _ _ st _ → _ => hK; first | (apply hK; clear hK) | (clear hK; rename ∀ st, Tri _ _ _ st _ → _ => hK; apply hK; clear hK)))))) | skip)
      | (intro β)
      | (rename ∀ st, Tri _ _ _ st _ → _ => hK; apply hK; clear hK))
    exact Tri.ret ⟨_, rfl, by simpa [upd] using wG⟩
  clear hK
  refine Tri.block (Tri.loop (TInv r flow frame) r.atts.length ?_ ?_)
  · exact ⟨_, .sl true 0 none [], 0, ⟨rfl, by simp [upd], by simp [upd], by simp [upd] <;> exact rfl, by simp [upd] <;> exact rfl, by simp [upd]⟩, rfl, by simp [upd], .inl ⟨by simp [ofF], _, _, rfl⟩⟩
  · rintro m st ⟨b3, G, i, ⟨hn, s1, s2, s3, x3, s7⟩, hm, s8, hG⟩
    by_cases hi : i < r.atts.length
    case neg =>
      rw [List.take_of_length_le (by omega)] at hG
      repeat (first
        | (refine Tri.seq fun K hK => ?_)
        | (refine Tri.region ?_; simp [upd, hn, s1, s2, s3, x3, s7, s8, hi])
        | (refine Tri.draw (by kernel_rfl) (by decide +kernel) ?_; simp [upd, hn, s1, s2, s3, x3, s7, s8, hi])
        | (refine Tri.cond_true ?_ ?_; (focus simp [upd, hn, s1, s2, s3, x3, s7, s8, hi]; done))
        | (refine Tri.cond_false ?_ ?_; (focus simp [upd, hn, s1, s2, s3, x3, s7, s8, hi]; done))
        | (refine Tri.skip ?_; simp only [thenS, blockS])
        | (refine Tri.block_seq ?_)
        | (refine Tri.block_region ?_)
        | (refine Tri.block_cond ?_)
        | (refine Tri.exit ?_; simp [upd, hn, s1, s2, s3, x3, s7, s8, hi]; first | (rename ∀ st, Tri _ _ _ st _ → _ => hK; first | (apply hK; clear hK) | (clear hK; rename ∀ st, Tri _ _ _ st _ → _ => hK; first | (apply hK; clear hK) | (clear hK; rename ∀ st, Tri _ _ _ st _ → _ => hK; first | (apply hK; clear hK) | (clear hK; rename ∀ st, Tri _ _ _ st _ → _ => hK; first | (apply hK; clear hK) | (clear hK; rename ∀ st, Tri _ _ _ st _ → _ => hK; first | (apply hK; clear hK) | (clear hK; rename ∀ st, Tri _ _ _ st _ → _ => hK; apply hK; clear hK)))))) | skip)
        | (intro β)
        | (rename ∀ st, Tri _ _ _ st _ → _ => hK; apply hK; clear hK))
      apply fin
      exact ⟨G, rfl, by simp [upd, s7], by simpa [GC] using hG⟩
    have hw : IntKind.i64.wrap ((i : Int) + 1) = (i : Int) + 1 := wrap_i64 (by omega) (by omega)
    have ht := ofF_take flow frame r.atts i hi
    have hle := ofF_le flow frame (r.atts.take i)
    rw [List.length_take] at hle
    cases g1 : (r.atts[i].flow == flow)
    case false =>
      rw [if_neg (fun h => by simp [h.1] at g1), List.append_nil] at ht
      repeat (first
        | (refine Tri.seq fun K hK => ?_)
        | (refine Tri.region ?_; simp [upd, hn, s1, s2, s3, x3, s7, s8, hi, hw, g1])
        | (refine Tri.draw (by kernel_rfl) (by decide +kernel) ?_; simp [upd, hn, s1, s2, s3, x3, s7, s8, hi, hw, g1])
        | (refine Tri.cond_true ?_ ?_; (focus simp [upd, hn, s1, s2, s3, x3, s7, s8, hi, hw, g1]; done))
        | (refine Tri.cond_false ?_ ?_; (focus simp [upd, hn, s1, s2, s3, x3, s7, s8, hi, hw, g1]; done))
        | (refine Tri.skip ?_; simp only [thenS, blockS])
        | (refine Tri.block_seq ?_)
        | (refine Tri.block_region ?_)
        | (refine Tri.block_cond ?_)
        | (refine Tri.exit ?_; simp [upd, hn, s1, s2, s3, x3, s7, s8, hi, hw, g1]; first | (rename ∀ st, Tri _ _ _ st _ → _ => hK; first | (apply hK; clear hK) | (clear hK; rename ∀ st, Tri _ _ _ st _ → _ => hK; first | (apply hK; clear hK) | (clear hK; rename ∀ st, Tri _ _ _ st _ → _ => hK; first | (apply hK; clear hK) | (clear hK; rename ∀ st, Tri _ _ _ st _ → _ => hK; first | (apply hK; clear hK) | (clear hK; rename ∀ st, Tri _ _ _ st _ → _ => hK; first | (apply hK; clear hK) | (clear hK; rename ∀ st, Tri _ _ _ st _ → _ => hK; apply hK; clear hK)))))) | skip)
        | (intro β)
        | (rename ∀ st, Tri _ _ _ st _ → _ => hK; apply hK; clear hK))
      exact ⟨m - 1, by omega, b3, G, i + 1, ⟨rfl, by simp [upd, s1], by simp [upd, s2], by simp [upd, s3], by simpa using x3, by simp [upd, s7]⟩, by omega, by simp [upd], by simpa [GC, ht] using hG⟩
    cases g2 : (r.atts[i].frame == frame)
    case false =>
      rw [if_neg (fun h => by simp [h.2] at g2), List.append_nil] at ht
      repeat (first
        | (refine Tri.seq fun K hK => ?_)
        | (refine Tri.region ?_; simp [upd, hn, s1, s2, s3, x3, s7, s8, hi, hw, g1, g2])
        | (refine Tri.draw (by kernel_rfl) (by decide +kernel) ?_; simp [upd, hn, s1, s2, s3, x3, s7, s8, hi, hw, g1, g2])
        | (refine Tri.cond_true ?_ ?_; (focus simp [upd, hn, s1, s2, s3, x3, s7, s8, hi, hw, g1, g2]; done))
        | (refine Tri.cond_false ?_ ?_; (focus simp [upd, hn, s1, s2, s3, x3, s7, s8, hi, hw, g1, g2]; done))
        | (refine Tri.skip ?_; simp only [thenS, blockS])
        | (refine Tri.block_seq ?_)
        | (refine Tri.block_region ?_)
        | (refine Tri.block_cond ?_)
        | (refine Tri.exit ?_; simp [upd, hn, s1, s2, s3, x3, s7, s8, hi, hw, g1, g2]; first | (rename ∀ st, Tri _ _ _ st _ → _ => hK; first | (apply hK; clear hK) | (clear hK; rename ∀ st, Tri _ _ _ st _ → _ => hK; first | (apply hK; clear hK) | (clear hK; rename ∀ st, Tri _ _ _ st _ → _ => hK; first | (apply hK; clear hK) | (clear hK; rename ∀ st, Tri _ _ _ st _ → _ => hK; first | (apply hK; clear hK) | (clear hK; rename ∀ st, Tri _ _ _ st _ → _ => hK; first | (apply hK; clear hK) | (clear hK; rename ∀ st, Tri _ _ _ st _ → _ => hK; apply hK; clear hK)))))) | skip)
        | (intro β)
        | (rename ∀ st, Tri _ _ _ st _ → _ => hK; apply hK; clear hK))
      exact ⟨m - 1, by omega, b3, G, i + 1, ⟨rfl, by simp [upd, s1], by simp [upd, s2], by simp [upd, s3], by simpa using x3, by simp [upd, s7]⟩, by omega, by simp [upd], by simpa [GC, ht] using hG⟩
    rw [if_pos ⟨by simpa using g1, by simpa using g2⟩] at ht
    generalize ofF flow frame (r.atts.take i) = acc at *
    rcases hG with ⟨hnil, k0, own, rfl⟩ | ⟨b, hne, rfl, hrw⟩
    · have hacc : acc = [] := by simpa using hnil
      subst hacc
      repeat (first
        | (refine Tri.seq fun K hK => ?_)
        | (refine Tri.region ?_; simp [upd, hn, s1, s2, s3, x3, s7, s8, hi, hw, g1, g2])
        | (refine Tri.draw (by kernel_rfl) (by decide +kernel) ?_; simp [upd, hn, s1, s2, s3, x3, s7, s8, hi, hw, g1, g2])
        | (refine Tri.cond_true ?_ ?_; (focus simp [upd, hn, s1, s2, s3, x3, s7, s8, hi, hw, g1, g2]; done))
        | (refine Tri.cond_false ?_ ?_; (focus simp [upd, hn, s1, s2, s3, x3, s7, s8, hi, hw, g1, g2]; done))
        | (refine Tri.skip ?_; simp only [thenS, blockS])
        | (refine Tri.block_seq ?_)
        | (refine Tri.block_region ?_)
        | (refine Tri.block_cond ?_)
        | (refine Tri.exit ?_; simp [upd, hn, s1, s2, s3, x3, s7, s8, hi, hw, g1, g2]; first | (rename ∀ st, Tri _ _ _ st _ → _ => hK; first | (apply hK; clear hK) | (clear hK; rename ∀ st, Tri _ _ _ st _ → _ => hK; first | (apply hK; clear hK) | (clear hK; rename ∀ st, Tri _ _ _ st _ → _ => hK; first | (apply hK; clear hK) | (clear hK; rename ∀ st, Tri _ _ _ st _ → _ => hK; first | (apply hK; clear hK) | (clear hK; rename ∀ st, Tri _ _ _ st _ → _ => hK; first | (apply hK; clear hK) | (clear hK; rename ∀ st, Tri _ _ _ st _ → _ => hK; apply hK; clear hK)))))) | skip)
        | (intro β)
        | (rename ∀ st, Tri _ _ _ st _ → _ => hK; apply hK; clear hK))
      exact ⟨m - 1, by omega, b3, .sl false 8 (some (38, β)) ([r.atts[i]].map attC), i + 1, ⟨rfl, by simp [upd, s1], by simp [upd, s2], by simp [upd, s3], by simpa using x3, by simp [upd, s7]⟩, by omega, by simp [upd], .inr ⟨β, by simp [ht], by simp [ht], by simp [ht, upd]⟩⟩
    · have hb : (acc.length + 1) * 64 ≤ 140737488355328 := by omega
      rw [List.length_map] at hrw
      repeat (first
        | (refine Tri.seq fun K hK => ?_)
        | (refine Tri.region ?_; simp [upd, hn, s1, s2, s3, x3, s7, s8, hi, hw, g1, g2, hb, hrw])
        | (refine Tri.draw (by kernel_rfl) (by decide +kernel) ?_; simp [upd, hn, s1, s2, s3, x3, s7, s8, hi, hw, g1, g2, hb, hrw])
        | (refine Tri.cond_true ?_ ?_; (focus simp [upd, hn, s1, s2, s3, x3, s7, s8, hi, hw, g1, g2, hb, hrw]; done))
        | (refine Tri.cond_false ?_ ?_; (focus simp [upd, hn, s1, s2, s3, x3, s7, s8, hi, hw, g1, g2, hb, hrw]; done))
        | (refine Tri.skip ?_; simp only [thenS, blockS])
        | (refine Tri.block_seq ?_)
        | (refine Tri.block_region ?_)
        | (refine Tri.block_cond ?_)
        | (refine Tri.exit ?_; simp [upd, hn, s1, s2, s3, x3, s7, s8, hi, hw, g1, g2, hb, hrw]; first | (rename ∀ st, Tri _ _ _ st _ → _ => hK; first | (apply hK; clear hK) | (clear hK; rename ∀ st, Tri _ _ _ st _ → _ => hK; first | (apply hK; clear hK) | (clear hK; rename ∀ st, Tri _ _ _ st _ → _ => hK; first | (apply hK; clear hK) | (clear hK; rename ∀ st, Tri _ _ _ st _ → _ => hK; first | (apply hK; clear hK) | (clear hK; rename ∀ st, Tri _ _ _ st _ → _ => hK; first | (apply hK; clear hK) | (clear hK; rename ∀ st, Tri _ _ _ st _ → _ => hK; apply hK; clear hK)))))) | skip)
        | (intro β)
        | (rename ∀ st, Tri _ _ _ st _ → _ => hK; apply hK; clear hK))
      exact ⟨m - 1, by omega, b3, .sl false 8 (some (38, β)) ((acc ++ [r.atts[i]]).map attC), i + 1, ⟨rfl, by simp [upd, s1], by simp [upd, s2], by simp [upd, s3], by simpa using x3, by simp [upd, s7]⟩, by omega, by simp [upd], .inr ⟨β, by simp [ht], by simp [ht], by simp [ht, upd]⟩⟩
theorem equalA_does (x : List Att) (n1 n2 : Bool) (hl : x.length ≤ 1073741824) : Does Try.prog 27 [.c (.sl n1 8 none (x.map attC)), .c (.sl n2 8 none (x.map attC))] (.c (.bool true)) := by
  refine Does.of_body Try.func27 rfl (by kernel_rfl) rfl rfl (by simp) ?_
  intro E
  repeat (first
    | (refine Tri.seq fun K hK => ?_)
    | (refine Tri.region ?_; simp [upd, bne])
    | (refine Tri.draw (by kernel_rfl) (by decide +kernel) ?_; simp [upd, bne])
    | (refine Tri.cond_true ?_ ?_; (focus simp [upd, bne]; done))
    | (refine Tri.cond_false ?_ ?_; (focus simp [upd, bne]; done))
    | (refine Tri.skip ?_; simp only [thenS, blockS])
    | (refine Tri.block_seq ?_)
    | (refine Tri.block_region ?_)
    | (refine Tri.block_cond ?_)
    | (refine Tri.exit ?_; simp [upd, bne]; first | (rename ∀ st, Tri _ _ _ st _ → _ => hK; first | (apply hK; clear hK) | (clear hK; rename ∀ st, Tri _ _ _ st _ → _ => hK; first | (apply hK; clear hK) | (clear hK; rename ∀ st, Tri _ _ _ st _ → _ => hK; first | (apply hK; clear hK) | (clear hK; rename ∀ st, Tri _ _ _ st _ → _ => hK; first | (apply hK; clear hK) | (clear hK; rename ∀ st, Tri _ _ _ st _ → _ => hK; first | (apply hK; clear hK) | (clear hK; rename ∀ st, Tri _ _ _ st _ → _ => hK; apply hK; clear hK)))))) | skip)
    | (intro β)
    | (rename ∀ st, Tri _ _ _ st _ → _ => hK; apply hK; clear hK))
  refine Tri.range 13 12 14 25 26 rfl rfl x.length (fun k st => st.sl 0 = .c (.sl n1 8 none (x.map attC)) ∧ st.sl 1 = .c (.sl n2 8 none (x.map attC))) (by simp) (by omega) ?_ rfl (by simp [upd]) (by simp [upd]) ?_ ?_ ?_
  · rintro k st t v ht ⟨a1, a2⟩
    rcases ht with rfl | rfl | rfl <;> exact ⟨by simpa [upd] using a1, by simpa [upd] using a2⟩
  · exact ⟨by simp [upd], by simp [upd]⟩
  · rintro k st hk ⟨a1, a2⟩ hn h13 h12
    repeat (first
      | (refine Tri.seq fun K hK => ?_)
      | (refine Tri.region ?_; simp [upd, hn, a1, a2, h13, h12, hk, bne])
      | (refine Tri.draw (by kernel_rfl) (by decide +kernel) ?_; simp [upd, hn, a1, a2, h13, h12, hk, bne])
      | (refine Tri.cond_true ?_ ?_; (focus simp [upd, hn, a1, a2, h13, h12, hk, bne]; done))
      | (refine Tri.cond_false ?_ ?_; (focus simp [upd, hn, a1, a2, h13, h12, hk, bne]; done))
      | (refine Tri.skip ?_; simp only [thenS, blockS])
      | (refine Tri.block_seq ?_)
      | (refine Tri.block_region ?_)
      | (refine Tri.block_cond ?_)
      | (refine Tri.exit ?_; simp [upd, hn, a1, a2, h13, h12, hk, bne]; first | (rename ∀ st, Tri _ _ _ st _ → _ => hK; first | (apply hK; clear hK) | (clear hK; rename ∀ st, Tri _ _ _ st _ → _ => hK; first | (apply hK; clear hK) | (clear hK; rename ∀ st, Tri _ _ _ st _ → _ => hK; first | (apply hK; clear hK) | (clear hK; rename ∀ st, Tri _ _ _ st _ → _ => hK; first | (apply hK; clear hK) | (clear hK; rename ∀ st, Tri _ _ _ st _ → _ => hK; first | (apply hK; clear hK) | (clear hK; rename ∀ st, Tri _ _ _ st _ → _ => hK; apply hK; clear hK)))))) | skip)
      | (intro β)
      | (rename ∀ st, Tri _ _ _ st _ → _ => hK; apply hK; clear hK))
    try simp [upd, h13, h12, a1, a2]
  · rintro st ⟨a1, a2⟩ hn
    rename ∀ st, Tri _ _ _ st _ → _ => hK
    apply hK
    repeat (first
      | (refine Tri.seq fun K hK => ?_)
      | (refine Tri.region ?_; simp [upd, hn])
      | (refine Tri.draw (by kernel_rfl) (by decide +kernel) ?_; simp [upd, hn])
      | (refine Tri.cond_true ?_ ?_; (focus simp [upd, hn]; done))
      | (refine Tri.cond_false ?_ ?_; (focus simp [upd, hn]; done))
      | (refine Tri.skip ?_; simp only [thenS, blockS])
      | (refine Tri.block_seq ?_)
      | (refine Tri.block_region ?_)
      | (refine Tri.block_cond ?_)
      | (refine Tri.exit ?_; simp [upd, hn]; first | (rename ∀ st, Tri _ _ _ st _ → _ => hK; first | (apply hK; clear hK) | (clear hK; rename ∀ st, Tri _ _ _ st _ → _ => hK; first | (apply hK; clear hK) | (clear hK; rename ∀ st, Tri _ _ _ st _ → _ => hK; first | (apply hK; clear hK) | (clear hK; rename ∀ st, Tri _ _ _ st _ → _ => hK; first | (apply hK; clear hK) | (clear hK; rename ∀ st, Tri _ _ _ st _ → _ => hK; first | (apply hK; clear hK) | (clear hK; rename ∀ st, Tri _ _ _ st _ → _ => hK; apply hK; clear hK)))))) | skip)
      | (intro β)
      | (rename ∀ st, Tri _ _ _ st _ → _ => hK; apply hK; clear hK))
    refine Tri.ret ⟨_, rfl, ?_⟩
    simp [upd]
    exact Wk.refl _
end Go.Proofs.Ytngbpmiikpjiaaa
end
section
open Go Go.Vm
namespace Go.Proofs.Ytngbpmiikpjiaaa
set_option maxRecDepth 100000
set_option maxHeartbeats 4000000
set_option linter.unusedSimpArgs false
theorem losses_def (r : Rec) (flow frame frm to : Int) : losses r flow frame frm to = lossGo frm to [] (attsOf r flow frame) := rfl
theorem attsOf_le (r : Rec) (flow frame : Int) : (attsOf r flow frame).length ≤ r.atts.length := List.length_filter_le ..
attribute [local irreducible] Tri Does DoesB Rounds losses attsOf
structure OI (frm to : Int) (l : List Att) (nl : Bool) (st : St) (R O : C) (run : List Int) (outs : List (List Int)) (i : Nat) : Prop where
  hn : st.n = 72
  s3 : st.sl 3 = .c (.int .i64 frm)
  s4 : st.sl 4 = .c (.int .i64 to)
  s13 : st.sl 13 = .c (.sl nl 8 none (l.map attC))
  s12 : st.sl 12 = .c R
  s11 : st.sl 11 = .c O
  s14 : st.sl 14 = .c (.int .i64 (i : Nat))
  gR : GC st R 56 3 1 (I1 run)
  gO : GC st O 63 42 1 (runsC outs)
  lr : run.length ≤ i
  lo : outs.length ≤ i
  eq : lossGo frm to [] l = outs ++ lossGo frm to run (l.drop i)
def OInv (frm to : Int) (l : List Att) (nl : Bool) (m : Nat) (st : St) : Prop := ∃ R O run outs i, m + i = l.length ∧ OI frm to l nl st R O run outs i
theorem lossesR_does (r : Rec) (flow frame frm to : Int) (hl : r.atts.length ≤ 1073741824) : Does Try.prog 61 [.agg (recC r), .c (.int .i64 flow), .c (.int .i64 frame), .c (.int .i64 frm), .c (.int .i64 to)]
    (.c (.sl (losses r flow frame frm to).isEmpty 1 none (runsC (losses r flow frame frm to)))) := by
  refine Does.of_body Try.func61 rfl (by kernel_rfl) rfl rfl (by simp) ?_
  intro E
  have hat := attemptsR_does r flow frame hl
  have hal := attsOf_le r flow frame
  rw [losses_def]
  generalize attsOf r flow frame = l at hat hal
  simp only [recC] at hat ⊢
  repeat (first
    | (refine Tri.seq fun K hK => ?_)
    | (refine Tri.region ?_; simp [upd])
    | (refine Tri.draw (by kernel_rfl) (by decide +kernel) ?_; simp [upd])
    | (refine Tri.cond_true ?_ ?_; (focus simp [upd]; done))
    | (refine Tri.cond_false ?_ ?_; (focus simp [upd]; done))
    | (refine Tri.skip ?_; simp only [thenS, blockS])
    | (refine Tri.block_seq ?_)
    | (refine Tri.block_region ?_)
    | (refine Tri.block_cond ?_)
    | ((with_reducible refine CallK.pure (hat) (Wks.refl _) ?_); simp [upd])
    | (refine Tri.exit ?_; simp [upd]; first | (rename ∀ st, Tri _ _ _ st _ → _ => hK; first | (apply hK; clear hK) | (clear hK; rename ∀ st, Tri _ _ _ st _ → _ => hK; first | (apply hK; clear hK) | (clear hK; rename ∀ st, Tri _ _ _ st _ → _ => hK; first | (apply hK; clear hK) | (clear hK; rename ∀ st, Tri _ _ _ st _ → _ => hK; first | (apply hK; clear hK) | (clear hK; rename ∀ st, Tri _ _ _ st _ → _ => hK; first | (apply hK; clear hK) | (clear hK; rename ∀ st, Tri _ _ _ st _ → _ => hK; apply hK; clear hK)))))) | skip)
    | (intro β)
    | (rename ∀ st, Tri _ _ _ st _ → _ => hK; apply hK; clear hK))
  rename ∀ st, Tri _ _ _ st _ → _ => hK
  have fin := fun (st : St) (h : OInv frm to l l.isEmpty 0 st) => hK st ?tail
  case tail =>
    obtain ⟨R, O, run, outs, i, hi, ⟨hn, s3, s4, s13, s12, s11, s14, gR, gO, lr, lo, eq⟩⟩ := h
    have hi : i = l.length := by omega
    rw [List.drop_of_length_le (by omega), lossGo] at eq
    rcases gR with ⟨hnil, k0, own, rfl⟩ | ⟨b, hne, rfl, hrw⟩
    · have hrun : run = [] := by simpa [I1] using hnil
      subst hrun
      rw [if_pos rfl, List.append_nil] at eq
      have wO : Wk (.c O) (.c (.sl (runsC outs).isEmpty 1 none (runsC outs))) := by simpa using GC.wk gO
      rw [eq]
      repeat (first
        | (refine Tri.seq fun K hK => ?_)
        | (refine Tri.region ?_; simp [upd, hn, s3, s4, s13, s12, s11, s14])
        | (refine Tri.draw (by kernel_rfl) (by decide +kernel) ?_; simp [upd, hn, s3, s4, s13, s12, s11, s14])
        | (refine Tri.cond_true ?_ ?_; (focus simp [upd, hn, s3, s4, s13, s12, s11, s14]; done))
        | (refine Tri.cond_false ?_ ?_; (focus simp [upd, hn, s3, s4, s13, s12, s11, s14]; done))
        | (refine Tri.skip ?_; simp only [thenS, blockS])
        | (refine Tri.block_seq ?_)
        | (refine Tri.block_region ?_)
        | (refine Tri.block_cond ?_)
        | (refine Tri.exit ?_; simp [upd, hn, s3, s4, s13, s12, s11, s14]; first | (rename ∀ st, Tri _ _ _ st _ → _ => hK; first | (apply hK; clear hK) | (clear hK; rename ∀ st, Tri _ _ _ st _ → _ => hK; first | (apply hK; clear hK) | (clear hK; rename ∀ st, Tri _ _ _ st _ → _ => hK; first | (apply hK; clear hK) | (clear hK; rename ∀ st, Tri _ _ _ st _ → _ => hK; first | (apply hK; clear hK) | (clear hK; rename ∀ st, Tri _ _ _ st _ → _ => hK; first | (apply hK; clear hK) | (clear hK; rename ∀ st, Tri _ _ _ st _ → _ => hK; apply hK; clear hK)))))) | skip)
        | (intro β)
        | (rename ∀ st, Tri _ _ _ st _ → _ => hK; apply hK; clear hK))
      exact Tri.ret ⟨_, rfl, by simpa [upd, runsC] using wO⟩
    · have hrun : run ≠ [] := by rintro rfl; simp [I1] at hne
      rw [if_neg hrun] at eq
      have hr1 : 0 < (I1 run).length := List.length_pos_iff.2 hne
      have hr2 : ¬ I1 run = [] := hne
      have hr3 : 0 < ((I1 run).length : Int) := by omega
      rw [eq]
      rcases gO with ⟨hnil, k0, own, rfl⟩ | ⟨b', hne', rfl, hrw'⟩
      · have hout : outs = [] := by simpa [runsC] using hnil
        subst hout
        repeat (first
          | (refine Tri.seq fun K hK => ?_)
          | (refine Tri.region ?_; simp [upd, hn, s3, s4, s13, s12, s11, s14, hr1, hr2, hr3])
          | (refine Tri.draw (by kernel_rfl) (by decide +kernel) ?_; simp [upd, hn, s3, s4, s13, s12, s11, s14, hr1, hr2, hr3])
          | (refine Tri.cond_true ?_ ?_; (focus simp [upd, hn, s3, s4, s13, s12, s11, s14, hr1, hr2, hr3]; done))
          | (refine Tri.cond_false ?_ ?_; (focus simp [upd, hn, s3, s4, s13, s12, s11, s14, hr1, hr2, hr3]; done))
          | (refine Tri.skip ?_; simp only [thenS, blockS])
          | (refine Tri.block_seq ?_)
          | (refine Tri.block_region ?_)
          | (refine Tri.block_cond ?_)
          | (refine Tri.exit ?_; simp [upd, hn, s3, s4, s13, s12, s11, s14, hr1, hr2, hr3]; first | (rename ∀ st, Tri _ _ _ st _ → _ => hK; first | (apply hK; clear hK) | (clear hK; rename ∀ st, Tri _ _ _ st _ → _ => hK; first | (apply hK; clear hK) | (clear hK; rename ∀ st, Tri _ _ _ st _ → _ => hK; first | (apply hK; clear hK) | (clear hK; rename ∀ st, Tri _ _ _ st _ → _ => hK; first | (apply hK; clear hK) | (clear hK; rename ∀ st, Tri _ _ _ st _ → _ => hK; first | (apply hK; clear hK) | (clear hK; rename ∀ st, Tri _ _ _ st _ → _ => hK; apply hK; clear hK)))))) | skip)
          | (intro β)
          | (rename ∀ st, Tri _ _ _ st _ → _ => hK; apply hK; clear hK))
        refine Tri.ret ⟨_, rfl, ?_⟩
        simp [upd, runsC, runC]
        exact Wk.untag _ _ _ _
      · have hb : ((runsC outs).length + 1) * 24 ≤ 140737488355328 := by simp [runsC]; omega
        repeat (first
          | (refine Tri.seq fun K hK => ?_)
          | (refine Tri.region ?_; simp [upd, hn, s3, s4, s13, s12, s11, s14, hr1, hr2, hr3, hb, hrw'])
          | (refine Tri.draw (by kernel_rfl) (by decide +kernel) ?_; simp [upd, hn, s3, s4, s13, s12, s11, s14, hr1, hr2, hr3, hb, hrw'])
          | (refine Tri.cond_true ?_ ?_; (focus simp [upd, hn, s3, s4, s13, s12, s11, s14, hr1, hr2, hr3, hb, hrw']; done))
          | (refine Tri.cond_false ?_ ?_; (focus simp [upd, hn, s3, s4, s13, s12, s11, s14, hr1, hr2, hr3, hb, hrw']; done))
          | (refine Tri.skip ?_; simp only [thenS, blockS])
          | (refine Tri.block_seq ?_)
          | (refine Tri.block_region ?_)
          | (refine Tri.block_cond ?_)
          | (refine Tri.exit ?_; simp [upd, hn, s3, s4, s13, s12, s11, s14, hr1, hr2, hr3, hb, hrw']; first | (rename ∀ st, Tri _ _ _ st _ → _ => hK; first | (apply hK; clear hK) | (clear hK; rename ∀ st, Tri _ _ _ st _ → _ => hK; first | (apply hK; clear hK) | (clear hK; rename ∀ st, Tri _ _ _ st _ → _ => hK; first | (apply hK; clear hK) | (clear hK; rename ∀ st, Tri _ _ _ st _ → _ => hK; first | (apply hK; clear hK) | (clear hK; rename ∀ st, Tri _ _ _ st _ → _ => hK; first | (apply hK; clear hK) | (clear hK; rename ∀ st, Tri _ _ _ st _ → _ => hK; apply hK; clear hK)))))) | skip)
          | (intro β)
          | (rename ∀ st, Tri _ _ _ st _ → _ => hK; apply hK; clear hK))
        refine Tri.ret ⟨_, rfl, ?_⟩
        have he : (outs ++ [run]).isEmpty = false := by cases outs <;> rfl
        simp [upd, runsC, runC, he]
        exact Wk.untag _ _ _ _
  clear hK
  refine Tri.block (Tri.loop (OInv frm to l l.isEmpty) l.length ?_ ?_)
  · exact ⟨.sl true 0 none [], .sl true 0 none [], [], [], 0, rfl, ⟨rfl, by simp [upd], by simp [upd], by simp [upd], by simp [upd], by simp [upd], by simp [upd], .inl ⟨rfl, _, _, rfl⟩, .inl ⟨rfl, _, _, rfl⟩, by simp, by simp, rfl⟩⟩
  · rintro m st ⟨R, O, run, outs, i, hm, ⟨hn, s3, s4, s13, s12, s11, s14, gR, gO, lr, lo, eq⟩⟩
    by_cases hi : i < l.length
    case neg =>
      repeat (first
        | (refine Tri.seq fun K hK => ?_)
        | (refine Tri.region ?_; simp [upd, hn, s3, s4, s13, s12, s11, s14, hi])
        | (refine Tri.draw (by kernel_rfl) (by decide +kernel) ?_; simp [upd, hn, s3, s4, s13, s12, s11, s14, hi])
        | (refine Tri.cond_true ?_ ?_; (focus simp [upd, hn, s3, s4, s13, s12, s11, s14, hi]; done))
        | (refine Tri.cond_false ?_ ?_; (focus simp [upd, hn, s3, s4, s13, s12, s11, s14, hi]; done))
        | (refine Tri.skip ?_; simp only [thenS, blockS])
        | (refine Tri.block_seq ?_)
        | (refine Tri.block_region ?_)
        | (refine Tri.block_cond ?_)
        | (refine Tri.exit ?_; simp [upd, hn, s3, s4, s13, s12, s11, s14, hi]; first | (rename ∀ st, Tri _ _ _ st _ → _ => hK; first | (apply hK; clear hK) | (clear hK; rename ∀ st, Tri _ _ _ st _ → _ => hK; first | (apply hK; clear hK) | (clear hK; rename ∀ st, Tri _ _ _ st _ → _ => hK; first | (apply hK; clear hK) | (clear hK; rename ∀ st, Tri _ _ _ st _ → _ => hK; first | (apply hK; clear hK) | (clear hK; rename ∀ st, Tri _ _ _ st _ → _ => hK; first | (apply hK; clear hK) | (clear hK; rename ∀ st, Tri _ _ _ st _ → _ => hK; apply hK; clear hK)))))) | skip)
        | (intro β)
        | (rename ∀ st, Tri _ _ _ st _ → _ => hK; apply hK; clear hK))
      apply fin
      exact ⟨R, O, run, outs, i, by omega, ⟨rfl, by simp [upd, s3], by simp [upd, s4], by simp [upd, s13], by simp [upd, s12], by simp [upd, s11], by simp [upd, s14], by simpa [GC] using gR, by simpa [GC] using gO, lr, lo, eq⟩⟩
    have hw : IntKind.i64.wrap ((i : Int) + 1) = (i : Int) + 1 := wrap_i64 (by omega) (by omega)
    have hd : l.drop i = l[i] :: l.drop (i + 1) := List.drop_eq_getElem_cons hi
    rw [hd, lossGo] at eq
    cases e1 : (l[i].frm == frm)
    case false =>
      rw [if_neg (fun h => by simp [h.1] at e1)] at eq
      repeat (first
        | (refine Tri.seq fun K hK => ?_)
        | (refine Tri.region ?_; simp [upd, hn, s3, s4, s13, s12, s11, s14, hi, hw, e1, bne])
        | (refine Tri.draw (by kernel_rfl) (by decide +kernel) ?_; simp [upd, hn, s3, s4, s13, s12, s11, s14, hi, hw, e1, bne])
        | (refine Tri.cond_true ?_ ?_; (focus simp [upd, hn, s3, s4, s13, s12, s11, s14, hi, hw, e1, bne]; done))
        | (refine Tri.cond_false ?_ ?_; (focus simp [upd, hn, s3, s4, s13, s12, s11, s14, hi, hw, e1, bne]; done))
        | (refine Tri.skip ?_; simp only [thenS, blockS])
        | (refine Tri.block_seq ?_)
        | (refine Tri.block_region ?_)
        | (refine Tri.block_cond ?_)
        | (refine Tri.exit ?_; simp [upd, hn, s3, s4, s13, s12, s11, s14, hi, hw, e1, bne]; first | (rename ∀ st, Tri _ _ _ st _ → _ => hK; first | (apply hK; clear hK) | (clear hK; rename ∀ st, Tri _ _ _ st _ → _ => hK; first | (apply hK; clear hK) | (clear hK; rename ∀ st, Tri _ _ _ st _ → _ => hK; first | (apply hK; clear hK) | (clear hK; rename ∀ st, Tri _ _ _ st _ → _ => hK; first | (apply hK; clear hK) | (clear hK; rename ∀ st, Tri _ _ _ st _ → _ => hK; first | (apply hK; clear hK) | (clear hK; rename ∀ st, Tri _ _ _ st _ → _ => hK; apply hK; clear hK)))))) | skip)
        | (intro β)
        | (rename ∀ st, Tri _ _ _ st _ → _ => hK; apply hK; clear hK))
      refine ⟨m - 1, by omega, R, O, run, outs, i + 1, by omega, ⟨rfl, by simp [upd, s3], by simp [upd, s4], by simp [upd, s13], by simp [upd, s12, I1], by simp [upd, s11, runsC, runC], by simp [upd], ?_, ?_, ?_, ?_, ?_⟩⟩
      · simpa [GC] using gR
      · simpa [GC] using gO
      · omega
      · omega
      · exact eq
    cases e2 : (l[i].to == to)
    case false =>
      rw [if_neg (fun h => by simp [h.2] at e2)] at eq
      repeat (first
        | (refine Tri.seq fun K hK => ?_)
        | (refine Tri.region ?_; simp [upd, hn, s3, s4, s13, s12, s11, s14, hi, hw, e1, e2, bne])
        | (refine Tri.draw (by kernel_rfl) (by decide +kernel) ?_; simp [upd, hn, s3, s4, s13, s12, s11, s14, hi, hw, e1, e2, bne])
        | (refine Tri.cond_true ?_ ?_; (focus simp [upd, hn, s3, s4, s13, s12, s11, s14, hi, hw, e1, e2, bne]; done))
        | (refine Tri.cond_false ?_ ?_; (focus simp [upd, hn, s3, s4, s13, s12, s11, s14, hi, hw, e1, e2, bne]; done))
        | (refine Tri.skip ?_; simp only [thenS, blockS])
        | (refine Tri.block_seq ?_)
        | (refine Tri.block_region ?_)
        | (refine Tri.block_cond ?_)
        | (refine Tri.exit ?_; simp [upd, hn, s3, s4, s13, s12, s11, s14, hi, hw, e1, e2, bne]; first | (rename ∀ st, Tri _ _ _ st _ → _ => hK; first | (apply hK; clear hK) | (clear hK; rename ∀ st, Tri _ _ _ st _ → _ => hK; first | (apply hK; clear hK) | (clear hK; rename ∀ st, Tri _ _ _ st _ → _ => hK; first | (apply hK; clear hK) | (clear hK; rename ∀ st, Tri _ _ _ st _ → _ => hK; first | (apply hK; clear hK) | (clear hK; rename ∀ st, Tri _ _ _ st _ → _ => hK; first | (apply hK; clear hK) | (clear hK; rename ∀ st, Tri _ _ _ st _ → _ => hK; apply hK; clear hK)))))) | skip)
        | (intro β)
        | (rename ∀ st, Tri _ _ _ st _ → _ => hK; apply hK; clear hK))
      refine ⟨m - 1, by omega, R, O, run, outs, i + 1, by omega, ⟨rfl, by simp [upd, s3], by simp [upd, s4], by simp [upd, s13], by simp [upd, s12, I1], by simp [upd, s11, runsC, runC], by simp [upd], ?_, ?_, ?_, ?_, ?_⟩⟩
      · simpa [GC] using gR
      · simpa [GC] using gO
      · omega
      · omega
      · exact eq
    rw [if_pos ⟨by simpa using e1, by simpa using e2⟩] at eq
    cases e3 : (l[i].out == 1)
    case false =>
      rw [if_neg (by simpa using e3)] at eq
      rcases gR with ⟨hnil, k0, own, rfl⟩ | ⟨b, hne, rfl, hrw⟩
      · have hrun : run = [] := by simpa [I1] using hnil
        subst hrun
        repeat (first
          | (refine Tri.seq fun K hK => ?_)
          | (refine Tri.region ?_; simp [upd, hn, s3, s4, s13, s12, s11, s14, hi, hw, e1, e2, e3, bne])
          | (refine Tri.draw (by kernel_rfl) (by decide +kernel) ?_; simp [upd, hn, s3, s4, s13, s12, s11, s14, hi, hw, e1, e2, e3, bne])
          | (refine Tri.cond_true ?_ ?_; (focus simp [upd, hn, s3, s4, s13, s12, s11, s14, hi, hw, e1, e2, e3, bne]; done))
          | (refine Tri.cond_false ?_ ?_; (focus simp [upd, hn, s3, s4, s13, s12, s11, s14, hi, hw, e1, e2, e3, bne]; done))
          | (refine Tri.skip ?_; simp only [thenS, blockS])
          | (refine Tri.block_seq ?_)
          | (refine Tri.block_region ?_)
          | (refine Tri.block_cond ?_)
          | (refine Tri.exit ?_; simp [upd, hn, s3, s4, s13, s12, s11, s14, hi, hw, e1, e2, e3, bne]; first | (rename ∀ st, Tri _ _ _ st _ → _ => hK; first | (apply hK; clear hK) | (clear hK; rename ∀ st, Tri _ _ _ st _ → _ => hK; first | (apply hK; clear hK) | (clear hK; rename ∀ st, Tri _ _ _ st _ → _ => hK; first | (apply hK; clear hK) | (clear hK; rename ∀ st, Tri _ _ _ st _ → _ => hK; first | (apply hK; clear hK) | (clear hK; rename ∀ st, Tri _ _ _ st _ → _ => hK; first | (apply hK; clear hK) | (clear hK; rename ∀ st, Tri _ _ _ st _ → _ => hK; apply hK; clear hK)))))) | skip)
          | (intro β)
          | (rename ∀ st, Tri _ _ _ st _ → _ => hK; apply hK; clear hK))
        refine ⟨m - 1, by omega, .sl false 1 (some (56, β)) (I1 [l[i].slot]), O, [l[i].slot], outs, i + 1, by omega, ⟨rfl, by simp [upd, s3], by simp [upd, s4], by simp [upd, s13], by simp [upd, s12, I1], by simp [upd, s11, runsC, runC], by simp [upd], ?_, ?_, ?_, ?_, ?_⟩⟩
        · exact .inr ⟨β, by simp [I1], rfl, by simp [upd, I1]⟩
        · simpa [GC, upd] using gO
        · simp
        · omega
        · simpa using eq
      · have hb : ((I1 run).length + 1) * 8 ≤ 140737488355328 := by simp [I1]; omega
        have hb2 : (I1 run).length = run.length := by simp [I1]
        repeat (first
          | (refine Tri.seq fun K hK => ?_)
          | (refine Tri.region ?_; simp [upd, hn, s3, s4, s13, s12, s11, s14, hi, hw, e1, e2, e3, hrw, hb, bne])
          | (refine Tri.draw (by kernel_rfl) (by decide +kernel) ?_; simp [upd, hn, s3, s4, s13, s12, s11, s14, hi, hw, e1, e2, e3, hrw, hb, bne])
          | (refine Tri.cond_true ?_ ?_; (focus simp [upd, hn, s3, s4, s13, s12, s11, s14, hi, hw, e1, e2, e3, hrw, hb, bne]; done))
          | (refine Tri.cond_false ?_ ?_; (focus simp [upd, hn, s3, s4, s13, s12, s11, s14, hi, hw, e1, e2, e3, hrw, hb, bne]; done))
          | (refine Tri.skip ?_; simp only [thenS, blockS])
          | (refine Tri.block_seq ?_)
          | (refine Tri.block_region ?_)
          | (refine Tri.block_cond ?_)
          | (refine Tri.exit ?_; simp [upd, hn, s3, s4, s13, s12, s11, s14, hi, hw, e1, e2, e3, hrw, hb, bne]; first | (rename ∀ st, Tri _ _ _ st _ → _ => hK; first | (apply hK; clear hK) | (clear hK; rename ∀ st, Tri _ _ _ st _ → _ => hK; first | (apply hK; clear hK) | (clear hK; rename ∀ st, Tri _ _ _ st _ → _ => hK; first | (apply hK; clear hK) | (clear hK; rename ∀ st, Tri _ _ _ st _ → _ => hK; first | (apply hK; clear hK) | (clear hK; rename ∀ st, Tri _ _ _ st _ → _ => hK; first | (apply hK; clear hK) | (clear hK; rename ∀ st, Tri _ _ _ st _ → _ => hK; apply hK; clear hK)))))) | skip)
          | (intro β)
          | (rename ∀ st, Tri _ _ _ st _ → _ => hK; apply hK; clear hK))
        refine ⟨m - 1, by omega, .sl false 1 (some (56, β)) (I1 run ++ [[.int .i64 l[i].slot]]), O, run ++ [l[i].slot], outs, i + 1, by omega, ⟨rfl, by simp [upd, s3], by simp [upd, s4], by simp [upd, s13], by simp [upd, s12, I1], by simp [upd, s11, runsC, runC], by simp [upd], ?_, ?_, ?_, ?_, ?_⟩⟩
        · exact .inr ⟨β, by simp [I1], by simp [I1], by simp [upd, I1]⟩
        · simpa [GC, upd] using gO
        · simp; omega
        · omega
        · simpa using eq
    rw [if_pos (by simpa using e3)] at eq
    rcases gR with ⟨hnil, k0, own, rfl⟩ | ⟨b, hne, rfl, hrw⟩
    · have hrun : run = [] := by simpa [I1] using hnil
      subst hrun
      rw [if_pos rfl] at eq
      repeat (first
        | (refine Tri.seq fun K hK => ?_)
        | (refine Tri.region ?_; simp [upd, hn, s3, s4, s13, s12, s11, s14, hi, hw, e1, e2, e3, bne])
        | (refine Tri.draw (by kernel_rfl) (by decide +kernel) ?_; simp [upd, hn, s3, s4, s13, s12, s11, s14, hi, hw, e1, e2, e3, bne])
        | (refine Tri.cond_true ?_ ?_; (focus simp [upd, hn, s3, s4, s13, s12, s11, s14, hi, hw, e1, e2, e3, bne]; done))
        | (refine Tri.cond_false ?_ ?_; (focus simp [upd, hn, s3, s4, s13, s12, s11, s14, hi, hw, e1, e2, e3, bne]; done))
        | (refine Tri.skip ?_; simp only [thenS, blockS])
        | (refine Tri.block_seq ?_)
        | (refine Tri.block_region ?_)
        | (refine Tri.block_cond ?_)
        | (refine Tri.exit ?_; simp [upd, hn, s3, s4, s13, s12, s11, s14, hi, hw, e1, e2, e3, bne]; first | (rename ∀ st, Tri _ _ _ st _ → _ => hK; first | (apply hK; clear hK) | (clear hK; rename ∀ st, Tri _ _ _ st _ → _ => hK; first | (apply hK; clear hK) | (clear hK; rename ∀ st, Tri _ _ _ st _ → _ => hK; first | (apply hK; clear hK) | (clear hK; rename ∀ st, Tri _ _ _ st _ → _ => hK; first | (apply hK; clear hK) | (clear hK; rename ∀ st, Tri _ _ _ st _ → _ => hK; first | (apply hK; clear hK) | (clear hK; rename ∀ st, Tri _ _ _ st _ → _ => hK; apply hK; clear hK)))))) | skip)
        | (intro β)
        | (rename ∀ st, Tri _ _ _ st _ → _ => hK; apply hK; clear hK))
      refine ⟨m - 1, by omega, .sl true 0 none [], O, [], outs, i + 1, by omega, ⟨rfl, by simp [upd, s3], by simp [upd, s4], by simp [upd, s13], by simp [upd, s12, I1], by simp [upd, s11, runsC, runC], by simp [upd], ?_, ?_, ?_, ?_, ?_⟩⟩
      · exact .inl ⟨rfl, _, _, rfl⟩
      · simpa [GC, upd] using gO
      · simp
      · omega
      · exact eq
    · have hrun : run ≠ [] := by rintro rfl; simp [I1] at hne
      rw [if_neg hrun] at eq
      have hr1 : 0 < (I1 run).length := List.length_pos_iff.2 hne
      have hr2 : ¬ I1 run = [] := hne
      have hr3 : 0 < ((I1 run).length : Int) := by omega
      rcases gO with ⟨hnil, k0, own, rfl⟩ | ⟨b', hne', rfl, hrw'⟩
      · have hout : outs = [] := by simpa [runsC] using hnil
        subst hout
        repeat (first
          | (refine Tri.seq fun K hK => ?_)
          | (refine Tri.region ?_; simp [upd, hn, s3, s4, s13, s12, s11, s14, hi, hw, e1, e2, e3, hr1, hr2, hr3, bne])
          | (refine Tri.draw (by kernel_rfl) (by decide +kernel) ?_; simp [upd, hn, s3, s4, s13, s12, s11, s14, hi, hw, e1, e2, e3, hr1, hr2, hr3, bne])
          | (refine Tri.cond_true ?_ ?_; (focus simp [upd, hn, s3, s4, s13, s12, s11, s14, hi, hw, e1, e2, e3, hr1, hr2, hr3, bne]; done))
          | (refine Tri.cond_false ?_ ?_; (focus simp [upd, hn, s3, s4, s13, s12, s11, s14, hi, hw, e1, e2, e3, hr1, hr2, hr3, bne]; done))
          | (refine Tri.skip ?_; simp only [thenS, blockS])
          | (refine Tri.block_seq ?_)
          | (refine Tri.block_region ?_)
          | (refine Tri.block_cond ?_)
          | (refine Tri.exit ?_; simp [upd, hn, s3, s4, s13, s12, s11, s14, hi, hw, e1, e2, e3, hr1, hr2, hr3, bne]; first | (rename ∀ st, Tri _ _ _ st _ → _ => hK; first | (apply hK; clear hK) | (clear hK; rename ∀ st, Tri _ _ _ st _ → _ => hK; first | (apply hK; clear hK) | (clear hK; rename ∀ st, Tri _ _ _ st _ → _ => hK; first | (apply hK; clear hK) | (clear hK; rename ∀ st, Tri _ _ _ st _ → _ => hK; first | (apply hK; clear hK) | (clear hK; rename ∀ st, Tri _ _ _ st _ → _ => hK; first | (apply hK; clear hK) | (clear hK; rename ∀ st, Tri _ _ _ st _ → _ => hK; apply hK; clear hK)))))) | skip)
          | (intro β)
          | (rename ∀ st, Tri _ _ _ st _ → _ => hK; apply hK; clear hK))
        refine ⟨m - 1, by omega, .sl true 0 none [], .sl false 1 (some (63, β)) (runsC [run]), [], [run], i + 1, by omega, ⟨rfl, by simp [upd, s3], by simp [upd, s4], by simp [upd, s13], by simp [upd, s12, I1], by simp [upd, s11, runsC, runC], by simp [upd], ?_, ?_, ?_, ?_, ?_⟩⟩
        · exact .inl ⟨rfl, _, _, rfl⟩
        · exact .inr ⟨β, by simp [runsC], rfl, by simp [upd, runsC]⟩
        · simp
        · simp
        · simpa using eq
      · have hb : ((runsC outs).length + 1) * 24 ≤ 140737488355328 := by simp [runsC]; omega
        repeat (first
          | (refine Tri.seq fun K hK => ?_)
          | (refine Tri.region ?_; simp [upd, hn, s3, s4, s13, s12, s11, s14, hi, hw, e1, e2, e3, hr1, hr2, hr3, hb, hrw', bne])
          | (refine Tri.draw (by kernel_rfl) (by decide +kernel) ?_; simp [upd, hn, s3, s4, s13, s12, s11, s14, hi, hw, e1, e2, e3, hr1, hr2, hr3, hb, hrw', bne])
          | (refine Tri.cond_true ?_ ?_; (focus simp [upd, hn, s3, s4, s13, s12, s11, s14, hi, hw, e1, e2, e3, hr1, hr2, hr3, hb, hrw', bne]; done))
          | (refine Tri.cond_false ?_ ?_; (focus simp [upd, hn, s3, s4, s13, s12, s11, s14, hi, hw, e1, e2, e3, hr1, hr2, hr3, hb, hrw', bne]; done))
          | (refine Tri.skip ?_; simp only [thenS, blockS])
          | (refine Tri.block_seq ?_)
          | (refine Tri.block_region ?_)
          | (refine Tri.block_cond ?_)
          | (refine Tri.exit ?_; simp [upd, hn, s3, s4, s13, s12, s11, s14, hi, hw, e1, e2, e3, hr1, hr2, hr3, hb, hrw', bne]; first | (rename ∀ st, Tri _ _ _ st _ → _ => hK; first | (apply hK; clear hK) | (clear hK; rename ∀ st, Tri _ _ _ st _ → _ => hK; first | (apply hK; clear hK) | (clear hK; rename ∀ st, Tri _ _ _ st _ → _ => hK; first | (apply hK; clear hK) | (clear hK; rename ∀ st, Tri _ _ _ st _ → _ => hK; first | (apply hK; clear hK) | (clear hK; rename ∀ st, Tri _ _ _ st _ → _ => hK; first | (apply hK; clear hK) | (clear hK; rename ∀ st, Tri _ _ _ st _ → _ => hK; apply hK; clear hK)))))) | skip)
          | (intro β)
          | (rename ∀ st, Tri _ _ _ st _ → _ => hK; apply hK; clear hK))
        refine ⟨m - 1, by omega, .sl true 0 none [], .sl false 1 (some (63, β)) (runsC (outs ++ [run])), [], outs ++ [run], i + 1, by omega, ⟨rfl, by simp [upd, s3], by simp [upd, s4], by simp [upd, s13], by simp [upd, s12, I1], by simp [upd, s11, runsC, runC], by simp [upd], ?_, ?_, ?_, ?_, ?_⟩⟩
        · exact .inl ⟨rfl, _, _, rfl⟩
        · exact .inr ⟨β, by simp [runsC], rfl, by simp [upd, runsC]⟩
        · simp
        · simp; omega
        · simpa using eq
end Go.Proofs.Ytngbpmiikpjiaaa
end
section
open Go Go.Vm
namespace Go.Proofs.Ytngbpmiikpjiaaa
set_option maxRecDepth 100000
set_option maxHeartbeats 4000000
set_option linter.unusedSimpArgs false
attribute [local irreducible] Tri Does DoesB DoesR Rounds check fault
/-- How many frames of a flow are complete. -/
def compI (f : Flo) (s : Int) : Int := if 0 ≤ s - f.pha - f.dea then (s - f.pha - f.dea).tdiv f.per + 1 else 0
theorem complete_does (f : Flo) (r : Rec) (h : fault 32 f = 0) (h0 : 0 ≤ r.slots) (h1 : r.slots ≤ 4096) : Does Try.prog 42 [.agg (floC f), .agg (recC r)] (.c (.int .i64 (compI f r.slots))) := by
  refine Does.of_body Try.func42 rfl (by kernel_rfl) rfl rfl (by simp) ?_
  intro E
  obtain ⟨i0, i1, f0, t0, p1, p2, q0, q1, d1, d2, ne⟩ := fault_ok h
  simp only [recC]
  unfold compI
  have w1 : IntKind.i64.wrap (r.slots - f.pha) = r.slots - f.pha := wrap_i64 (by omega) (by omega)
  have w2 : IntKind.i64.wrap (r.slots - f.pha - f.dea) = r.slots - f.pha - f.dea := wrap_i64 (by omega) (by omega)
  have a3 : f.per ≠ 0 := by omega
  generalize hx : r.slots - f.pha - f.dea = x at *
  by_cases g1 : 0 ≤ x
  · rw [if_pos g1]
    have b0 : 0 ≤ x.tdiv f.per := Int.tdiv_nonneg (by omega) (by omega)
    have b1 : x.tdiv f.per ≤ x := Int.tdiv_le_self _ (by omega)
    have w3 : IntKind.i64.wrap (x.tdiv f.per) = x.tdiv f.per := wrap_i64 (by omega) (by omega)
    have w4 : IntKind.i64.wrap (x.tdiv f.per + 1) = x.tdiv f.per + 1 := wrap_i64 (by omega) (by omega)
    repeat (first
      | (refine Tri.seq fun K hK => ?_)
      | (refine Tri.region ?_; simp [upd, w1, w2, w3, w4, hx, g1, a3])
      | (refine Tri.draw (by kernel_rfl) (by decide +kernel) ?_; simp [upd, w1, w2, w3, w4, hx, g1, a3])
      | (refine Tri.cond_true ?_ ?_; (focus simp [upd, w1, w2, w3, w4, hx, g1, a3]; done))
      | (refine Tri.cond_false ?_ ?_; (focus simp [upd, w1, w2, w3, w4, hx, g1, a3]; done))
      | (refine Tri.skip ?_; simp only [thenS, blockS])
      | (refine Tri.block_seq ?_)
      | (refine Tri.block_region ?_)
      | (refine Tri.block_cond ?_)
      | (refine Tri.exit ?_; simp [upd, w1, w2, w3, w4, hx, g1, a3]; first | (rename ∀ st, Tri _ _ _ st _ → _ => hK; first | (apply hK; clear hK) | (clear hK; rename ∀ st, Tri _ _ _ st _ → _ => hK; first | (apply hK; clear hK) | (clear hK; rename ∀ st, Tri _ _ _ st _ → _ => hK; first | (apply hK; clear hK) | (clear hK; rename ∀ st, Tri _ _ _ st _ → _ => hK; first | (apply hK; clear hK) | (clear hK; rename ∀ st, Tri _ _ _ st _ → _ => hK; first | (apply hK; clear hK) | (clear hK; rename ∀ st, Tri _ _ _ st _ → _ => hK; apply hK; clear hK)))))) | skip)
      | (intro β)
      | (rename ∀ st, Tri _ _ _ st _ → _ => hK; apply hK; clear hK))
    refine Tri.ret ⟨_, rfl, ?_⟩
    simp [upd]
    exact Wk.refl _
  · rw [if_neg g1]
    repeat (first
      | (refine Tri.seq fun K hK => ?_)
      | (refine Tri.region ?_; simp [upd, w1, w2, hx, g1])
      | (refine Tri.draw (by kernel_rfl) (by decide +kernel) ?_; simp [upd, w1, w2, hx, g1])
      | (refine Tri.cond_true ?_ ?_; (focus simp [upd, w1, w2, hx, g1]; done))
      | (refine Tri.cond_false ?_ ?_; (focus simp [upd, w1, w2, hx, g1]; done))
      | (refine Tri.skip ?_; simp only [thenS, blockS])
      | (refine Tri.block_seq ?_)
      | (refine Tri.block_region ?_)
      | (refine Tri.block_cond ?_)
      | (refine Tri.exit ?_; simp [upd, w1, w2, hx, g1]; first | (rename ∀ st, Tri _ _ _ st _ → _ => hK; first | (apply hK; clear hK) | (clear hK; rename ∀ st, Tri _ _ _ st _ → _ => hK; first | (apply hK; clear hK) | (clear hK; rename ∀ st, Tri _ _ _ st _ → _ => hK; first | (apply hK; clear hK) | (clear hK; rename ∀ st, Tri _ _ _ st _ → _ => hK; first | (apply hK; clear hK) | (clear hK; rename ∀ st, Tri _ _ _ st _ → _ => hK; first | (apply hK; clear hK) | (clear hK; rename ∀ st, Tri _ _ _ st _ → _ => hK; apply hK; clear hK)))))) | skip)
      | (intro β)
      | (rename ∀ st, Tri _ _ _ st _ → _ => hK; apply hK; clear hK))
    refine Tri.ret ⟨_, rfl, ?_⟩
    simp [upd]
    exact Wk.refl _
/-- The slot in which a frame arrived in time; or the first one in which it came late; -1 if it did not. -/
def arrGo (first last due : Int) : Int → List Int → Int × Bool
  | late, [] => (late, false)
  | late, s :: r => if first ≤ s ∧ s ≤ due then (s, true) else arrGo first last due (if due < s ∧ s ≤ last ∧ late < 0 then s else late) r
def arrI (f : Flo) (k : Int) (l : List Int) : Int × Bool := arrGo (relI f k) (relI f k + f.per - 1) (relI f k + f.dea - 1) (-1) l
def arrV (p : Int × Bool) : V := .tup [.c (.int .i64 p.1), .c (.bool p.2)]
theorem arrival_does (f : Flo) (k : Int) (l : List Int) (nl : Bool) (h : fault 32 f = 0) (h0 : 0 ≤ k) (h1 : k ≤ 1048576) (hl : l.length ≤ 1073741824) :
    Does Try.prog 43 [.agg (floC f), .c (.int .i64 k), .c (.sl nl 1 none (l.map fun x => [.int .i64 x]))] (arrV (arrI f k l)) := by
  refine Does.of_body Try.func43 rfl (by kernel_rfl) rfl rfl (by simp) ?_
  intro E
  have hw := window_does f k h h0 h1
  have hd := due_does f k h h0 h1
  unfold arrI
  generalize relI f k + f.per - 1 = last at *
  generalize relI f k + f.dea - 1 = due at *
  generalize relI f k = first at *
  repeat (first
    | (refine Tri.seq fun K hK => ?_)
    | (refine Tri.region ?_; simp [upd])
    | (refine Tri.draw (by kernel_rfl) (by decide +kernel) ?_; simp [upd])
    | (refine Tri.cond_true ?_ ?_; (focus simp [upd]; done))
    | (refine Tri.cond_false ?_ ?_; (focus simp [upd]; done))
    | (refine Tri.skip ?_; simp only [thenS, blockS])
    | (refine Tri.block_seq ?_)
    | (refine Tri.block_region ?_)
    | (refine Tri.block_cond ?_)
    | ((with_reducible refine CallK.pure (hw) (Wks.refl _) ?_); simp [upd])
    | ((with_reducible refine CallK.pure (hd) (Wks.refl _) ?_); simp [upd])
    | (refine Tri.exit ?_; simp [upd]; first | (rename ∀ st, Tri _ _ _ st _ → _ => hK; first | (apply hK; clear hK) | (clear hK; rename ∀ st, Tri _ _ _ st _ → _ => hK; first | (apply hK; clear hK) | (clear hK; rename ∀ st, Tri _ _ _ st _ → _ => hK; first | (apply hK; clear hK) | (clear hK; rename ∀ st, Tri _ _ _ st _ → _ => hK; first | (apply hK; clear hK) | (clear hK; rename ∀ st, Tri _ _ _ st _ → _ => hK; first | (apply hK; clear hK) | (clear hK; rename ∀ st, Tri _ _ _ st _ → _ => hK; apply hK; clear hK)))))) | skip)
    | (intro β)
    | (rename ∀ st, Tri _ _ _ st _ → _ => hK; apply hK; clear hK))
  refine Tri.range 31 30 32 59 61 rfl rfl l.length (fun k st => st.sl 29 = .c (.sl nl 1 none (l.map fun x => [.int .i64 x])) ∧ st.sl 8 = .c (.int .i64 first) ∧ st.sl 9 = .c (.int .i64 last) ∧ st.sl 11 = .c (.int .i64 due) ∧
      ∃ late, st.sl 13 = .c (.int .i64 late) ∧ arrGo first last due (-1) l = arrGo first last due late (l.drop k)) (by simp) (by omega) ?_ rfl (by simp [upd]) (by simp [upd]) ?_ ?_ ?_
  · rintro k st t v ht ⟨a1, a2, a3, a4, late, a5, a6⟩
    rcases ht with rfl | rfl | rfl <;> exact ⟨by simpa [upd] using a1, by simpa [upd] using a2, by simpa [upd] using a3, by simpa [upd] using a4, late, by simpa [upd] using a5, a6⟩
  · exact ⟨by simp [upd], by simp [upd], by simp [upd], by simp [upd], -1, by simp [upd], by simp⟩
  · rintro k st hk ⟨s29, s8, s9, s11, late, s13, hgo⟩ hn h31 h30
    have hdr : l.drop k = l[k] :: l.drop (k + 1) := List.drop_eq_getElem_cons hk
    rw [hdr, arrGo] at hgo
    by_cases g1 : first ≤ l[k]
    · by_cases g2 : l[k] ≤ due
      · rw [if_pos ⟨g1, g2⟩] at hgo
        rw [hgo]
        repeat (first
          | (refine Tri.seq fun K hK => ?_)
          | (refine Tri.region ?_; simp [upd, hn, s29, s8, s9, s11, s13, h31, h30, hk, g1, g2])
          | (refine Tri.draw (by kernel_rfl) (by decide +kernel) ?_; simp [upd, hn, s29, s8, s9, s11, s13, h31, h30, hk, g1, g2])
          | (refine Tri.cond_true ?_ ?_; (focus simp [upd, hn, s29, s8, s9, s11, s13, h31, h30, hk, g1, g2]; done))
          | (refine Tri.cond_false ?_ ?_; (focus simp [upd, hn, s29, s8, s9, s11, s13, h31, h30, hk, g1, g2]; done))
          | (refine Tri.skip ?_; simp only [thenS, blockS])
          | (refine Tri.block_seq ?_)
          | (refine Tri.block_region ?_)
          | (refine Tri.block_cond ?_)
          | (refine Tri.exit ?_; simp [upd, hn, s29, s8, s9, s11, s13, h31, h30, hk, g1, g2]; first | (rename ∀ st, Tri _ _ _ st _ → _ => hK; first | (apply hK; clear hK) | (clear hK; rename ∀ st, Tri _ _ _ st _ → _ => hK; first | (apply hK; clear hK) | (clear hK; rename ∀ st, Tri _ _ _ st _ → _ => hK; first | (apply hK; clear hK) | (clear hK; rename ∀ st, Tri _ _ _ st _ → _ => hK; first | (apply hK; clear hK) | (clear hK; rename ∀ st, Tri _ _ _ st _ → _ => hK; first | (apply hK; clear hK) | (clear hK; rename ∀ st, Tri _ _ _ st _ → _ => hK; apply hK; clear hK)))))) | skip)
          | (intro β)
          | (rename ∀ st, Tri _ _ _ st _ → _ => hK; apply hK; clear hK))
        refine Tri.ret ⟨_, rfl, ?_⟩
        simp [upd]
        exact Wk.refl _
      rw [if_neg (by omega)] at hgo
      have g2' : due < l[k] := by omega
      by_cases g3 : l[k] ≤ last
      · by_cases g4 : late < 0
        · rw [if_pos ⟨g2', g3, g4⟩] at hgo
          repeat (first
            | (refine Tri.seq fun K hK => ?_)
            | (refine Tri.region ?_; simp [upd, hn, s29, s8, s9, s11, s13, h31, h30, hk, g1, g2, g2', g3, g4])
            | (refine Tri.draw (by kernel_rfl) (by decide +kernel) ?_; simp [upd, hn, s29, s8, s9, s11, s13, h31, h30, hk, g1, g2, g2', g3, g4])
            | (refine Tri.cond_true ?_ ?_; (focus simp [upd, hn, s29, s8, s9, s11, s13, h31, h30, hk, g1, g2, g2', g3, g4]; done))
            | (refine Tri.cond_false ?_ ?_; (focus simp [upd, hn, s29, s8, s9, s11, s13, h31, h30, hk, g1, g2, g2', g3, g4]; done))
            | (refine Tri.skip ?_; simp only [thenS, blockS])
            | (refine Tri.block_seq ?_)
            | (refine Tri.block_region ?_)
            | (refine Tri.block_cond ?_)
            | (refine Tri.exit ?_; simp [upd, hn, s29, s8, s9, s11, s13, h31, h30, hk, g1, g2, g2', g3, g4]; first | (rename ∀ st, Tri _ _ _ st _ → _ => hK; first | (apply hK; clear hK) | (clear hK; rename ∀ st, Tri _ _ _ st _ → _ => hK; first | (apply hK; clear hK) | (clear hK; rename ∀ st, Tri _ _ _ st _ → _ => hK; first | (apply hK; clear hK) | (clear hK; rename ∀ st, Tri _ _ _ st _ → _ => hK; first | (apply hK; clear hK) | (clear hK; rename ∀ st, Tri _ _ _ st _ → _ => hK; first | (apply hK; clear hK) | (clear hK; rename ∀ st, Tri _ _ _ st _ → _ => hK; apply hK; clear hK)))))) | skip)
            | (intro β)
            | (rename ∀ st, Tri _ _ _ st _ → _ => hK; apply hK; clear hK))
          simp [upd, s29, s8, s9, s11, h31, h30, hgo]
        · rw [if_neg (by omega)] at hgo
          repeat (first
            | (refine Tri.seq fun K hK => ?_)
            | (refine Tri.region ?_; simp [upd, hn, s29, s8, s9, s11, s13, h31, h30, hk, g1, g2, g2', g3, g4])
            | (refine Tri.draw (by kernel_rfl) (by decide +kernel) ?_; simp [upd, hn, s29, s8, s9, s11, s13, h31, h30, hk, g1, g2, g2', g3, g4])
            | (refine Tri.cond_true ?_ ?_; (focus simp [upd, hn, s29, s8, s9, s11, s13, h31, h30, hk, g1, g2, g2', g3, g4]; done))
            | (refine Tri.cond_false ?_ ?_; (focus simp [upd, hn, s29, s8, s9, s11, s13, h31, h30, hk, g1, g2, g2', g3, g4]; done))
            | (refine Tri.skip ?_; simp only [thenS, blockS])
            | (refine Tri.block_seq ?_)
            | (refine Tri.block_region ?_)
            | (refine Tri.block_cond ?_)
            | (refine Tri.exit ?_; simp [upd, hn, s29, s8, s9, s11, s13, h31, h30, hk, g1, g2, g2', g3, g4]; first | (rename ∀ st, Tri _ _ _ st _ → _ => hK; first | (apply hK; clear hK) | (clear hK; rename ∀ st, Tri _ _ _ st _ → _ => hK; first | (apply hK; clear hK) | (clear hK; rename ∀ st, Tri _ _ _ st _ → _ => hK; first | (apply hK; clear hK) | (clear hK; rename ∀ st, Tri _ _ _ st _ → _ => hK; first | (apply hK; clear hK) | (clear hK; rename ∀ st, Tri _ _ _ st _ → _ => hK; first | (apply hK; clear hK) | (clear hK; rename ∀ st, Tri _ _ _ st _ → _ => hK; apply hK; clear hK)))))) | skip)
            | (intro β)
            | (rename ∀ st, Tri _ _ _ st _ → _ => hK; apply hK; clear hK))
          simp [upd, s29, s8, s9, s11, s13, h31, h30, hgo]
      · rw [if_neg (by omega)] at hgo
        repeat (first
          | (refine Tri.seq fun K hK => ?_)
          | (refine Tri.region ?_; simp [upd, hn, s29, s8, s9, s11, s13, h31, h30, hk, g1, g2, g2', g3])
          | (refine Tri.draw (by kernel_rfl) (by decide +kernel) ?_; simp [upd, hn, s29, s8, s9, s11, s13, h31, h30, hk, g1, g2, g2', g3])
          | (refine Tri.cond_true ?_ ?_; (focus simp [upd, hn, s29, s8, s9, s11, s13, h31, h30, hk, g1, g2, g2', g3]; done))
          | (refine Tri.cond_false ?_ ?_; (focus simp [upd, hn, s29, s8, s9, s11, s13, h31, h30, hk, g1, g2, g2', g3]; done))
          | (refine Tri.skip ?_; simp only [thenS, blockS])
          | (refine Tri.block_seq ?_)
          | (refine Tri.block_region ?_)
          | (refine Tri.block_cond ?_)
          | (refine Tri.exit ?_; simp [upd, hn, s29, s8, s9, s11, s13, h31, h30, hk, g1, g2, g2', g3]; first | (rename ∀ st, Tri _ _ _ st _ → _ => hK; first | (apply hK; clear hK) | (clear hK; rename ∀ st, Tri _ _ _ st _ → _ => hK; first | (apply hK; clear hK) | (clear hK; rename ∀ st, Tri _ _ _ st _ → _ => hK; first | (apply hK; clear hK) | (clear hK; rename ∀ st, Tri _ _ _ st _ → _ => hK; first | (apply hK; clear hK) | (clear hK; rename ∀ st, Tri _ _ _ st _ → _ => hK; first | (apply hK; clear hK) | (clear hK; rename ∀ st, Tri _ _ _ st _ → _ => hK; apply hK; clear hK)))))) | skip)
          | (intro β)
          | (rename ∀ st, Tri _ _ _ st _ → _ => hK; apply hK; clear hK))
        simp [upd, s29, s8, s9, s11, s13, h31, h30, hgo]
    · rw [if_neg (by omega)] at hgo
      by_cases g2 : due < l[k]
      · by_cases g3 : l[k] ≤ last
        · by_cases g4 : late < 0
          · rw [if_pos ⟨g2, g3, g4⟩] at hgo
            repeat (first
              | (refine Tri.seq fun K hK => ?_)
              | (refine Tri.region ?_; simp [upd, hn, s29, s8, s9, s11, s13, h31, h30, hk, g1, g2, g3, g4])
              | (refine Tri.draw (by kernel_rfl) (by decide +kernel) ?_; simp [upd, hn, s29, s8, s9, s11, s13, h31, h30, hk, g1, g2, g3, g4])
              | (refine Tri.cond_true ?_ ?_; (focus simp [upd, hn, s29, s8, s9, s11, s13, h31, h30, hk, g1, g2, g3, g4]; done))
              | (refine Tri.cond_false ?_ ?_; (focus simp [upd, hn, s29, s8, s9, s11, s13, h31, h30, hk, g1, g2, g3, g4]; done))
              | (refine Tri.skip ?_; simp only [thenS, blockS])
              | (refine Tri.block_seq ?_)
              | (refine Tri.block_region ?_)
              | (refine Tri.block_cond ?_)
              | (refine Tri.exit ?_; simp [upd, hn, s29, s8, s9, s11, s13, h31, h30, hk, g1, g2, g3, g4]; first | (rename ∀ st, Tri _ _ _ st _ → _ => hK; first | (apply hK; clear hK) | (clear hK; rename ∀ st, Tri _ _ _ st _ → _ => hK; first | (apply hK; clear hK) | (clear hK; rename ∀ st, Tri _ _ _ st _ → _ => hK; first | (apply hK; clear hK) | (clear hK; rename ∀ st, Tri _ _ _ st _ → _ => hK; first | (apply hK; clear hK) | (clear hK; rename ∀ st, Tri _ _ _ st _ → _ => hK; first | (apply hK; clear hK) | (clear hK; rename ∀ st, Tri _ _ _ st _ → _ => hK; apply hK; clear hK)))))) | skip)
              | (intro β)
              | (rename ∀ st, Tri _ _ _ st _ → _ => hK; apply hK; clear hK))
            simp [upd, s29, s8, s9, s11, h31, h30, hgo]
          · rw [if_neg (by omega)] at hgo
            repeat (first
              | (refine Tri.seq fun K hK => ?_)
              | (refine Tri.region ?_; simp [upd, hn, s29, s8, s9, s11, s13, h31, h30, hk, g1, g2, g3, g4])
              | (refine Tri.draw (by kernel_rfl) (by decide +kernel) ?_; simp [upd, hn, s29, s8, s9, s11, s13, h31, h30, hk, g1, g2, g3, g4])
              | (refine Tri.cond_true ?_ ?_; (focus simp [upd, hn, s29, s8, s9, s11, s13, h31, h30, hk, g1, g2, g3, g4]; done))
              | (refine Tri.cond_false ?_ ?_; (focus simp [upd, hn, s29, s8, s9, s11, s13, h31, h30, hk, g1, g2, g3, g4]; done))
              | (refine Tri.skip ?_; simp only [thenS, blockS])
              | (refine Tri.block_seq ?_)
              | (refine Tri.block_region ?_)
              | (refine Tri.block_cond ?_)
              | (refine Tri.exit ?_; simp [upd, hn, s29, s8, s9, s11, s13, h31, h30, hk, g1, g2, g3, g4]; first | (rename ∀ st, Tri _ _ _ st _ → _ => hK; first | (apply hK; clear hK) | (clear hK; rename ∀ st, Tri _ _ _ st _ → _ => hK; first | (apply hK; clear hK) | (clear hK; rename ∀ st, Tri _ _ _ st _ → _ => hK; first | (apply hK; clear hK) | (clear hK; rename ∀ st, Tri _ _ _ st _ → _ => hK; first | (apply hK; clear hK) | (clear hK; rename ∀ st, Tri _ _ _ st _ → _ => hK; first | (apply hK; clear hK) | (clear hK; rename ∀ st, Tri _ _ _ st _ → _ => hK; apply hK; clear hK)))))) | skip)
              | (intro β)
              | (rename ∀ st, Tri _ _ _ st _ → _ => hK; apply hK; clear hK))
            simp [upd, s29, s8, s9, s11, s13, h31, h30, hgo]
        · rw [if_neg (by omega)] at hgo
          repeat (first
            | (refine Tri.seq fun K hK => ?_)
            | (refine Tri.region ?_; simp [upd, hn, s29, s8, s9, s11, s13, h31, h30, hk, g1, g2, g3])
            | (refine Tri.draw (by kernel_rfl) (by decide +kernel) ?_; simp [upd, hn, s29, s8, s9, s11, s13, h31, h30, hk, g1, g2, g3])
            | (refine Tri.cond_true ?_ ?_; (focus simp [upd, hn, s29, s8, s9, s11, s13, h31, h30, hk, g1, g2, g3]; done))
            | (refine Tri.cond_false ?_ ?_; (focus simp [upd, hn, s29, s8, s9, s11, s13, h31, h30, hk, g1, g2, g3]; done))
            | (refine Tri.skip ?_; simp only [thenS, blockS])
            | (refine Tri.block_seq ?_)
            | (refine Tri.block_region ?_)
            | (refine Tri.block_cond ?_)
            | (refine Tri.exit ?_; simp [upd, hn, s29, s8, s9, s11, s13, h31, h30, hk, g1, g2, g3]; first | (rename ∀ st, Tri _ _ _ st _ → _ => hK; first | (apply hK; clear hK) | (clear hK; rename ∀ st, Tri _ _ _ st _ → _ => hK; first | (apply hK; clear hK) | (clear hK; rename ∀ st, Tri _ _ _ st _ → _ => hK; first | (apply hK; clear hK) | (clear hK; rename ∀ st, Tri _ _ _ st _ → _ => hK; first | (apply hK; clear hK) | (clear hK; rename ∀ st, Tri _ _ _ st _ → _ => hK; first | (apply hK; clear hK) | (clear hK; rename ∀ st, Tri _ _ _ st _ → _ => hK; apply hK; clear hK)))))) | skip)
            | (intro β)
            | (rename ∀ st, Tri _ _ _ st _ → _ => hK; apply hK; clear hK))
          simp [upd, s29, s8, s9, s11, s13, h31, h30, hgo]
      · rw [if_neg (by omega)] at hgo
        repeat (first
          | (refine Tri.seq fun K hK => ?_)
          | (refine Tri.region ?_; simp [upd, hn, s29, s8, s9, s11, s13, h31, h30, hk, g1, g2])
          | (refine Tri.draw (by kernel_rfl) (by decide +kernel) ?_; simp [upd, hn, s29, s8, s9, s11, s13, h31, h30, hk, g1, g2])
          | (refine Tri.cond_true ?_ ?_; (focus simp [upd, hn, s29, s8, s9, s11, s13, h31, h30, hk, g1, g2]; done))
          | (refine Tri.cond_false ?_ ?_; (focus simp [upd, hn, s29, s8, s9, s11, s13, h31, h30, hk, g1, g2]; done))
          | (refine Tri.skip ?_; simp only [thenS, blockS])
          | (refine Tri.block_seq ?_)
          | (refine Tri.block_region ?_)
          | (refine Tri.block_cond ?_)
          | (refine Tri.exit ?_; simp [upd, hn, s29, s8, s9, s11, s13, h31, h30, hk, g1, g2]; first | (rename ∀ st, Tri _ _ _ st _ → _ => hK; first | (apply hK; clear hK) | (clear hK; rename ∀ st, Tri _ _ _ st _ → _ => hK; first | (apply hK; clear hK) | (clear hK; rename ∀ st, Tri _ _ _ st _ → _ => hK; first | (apply hK; clear hK) | (clear hK; rename ∀ st, Tri _ _ _ st _ → _ => hK; first | (apply hK; clear hK) | (clear hK; rename ∀ st, Tri _ _ _ st _ → _ => hK; first | (apply hK; clear hK) | (clear hK; rename ∀ st, Tri _ _ _ st _ → _ => hK; apply hK; clear hK)))))) | skip)
          | (intro β)
          | (rename ∀ st, Tri _ _ _ st _ → _ => hK; apply hK; clear hK))
        simp [upd, s29, s8, s9, s11, s13, h31, h30, hgo]
  · rintro st ⟨s29, s8, s9, s11, late, s13, hgo⟩ hn
    rw [List.drop_length, arrGo] at hgo
    rename ∀ st, Tri _ _ _ st _ → _ => hK
    apply hK
    rw [hgo]
    repeat (first
      | (refine Tri.seq fun K hK => ?_)
      | (refine Tri.region ?_; simp [upd, hn, s13])
      | (refine Tri.draw (by kernel_rfl) (by decide +kernel) ?_; simp [upd, hn, s13])
      | (refine Tri.cond_true ?_ ?_; (focus simp [upd, hn, s13]; done))
      | (refine Tri.cond_false ?_ ?_; (focus simp [upd, hn, s13]; done))
      | (refine Tri.skip ?_; simp only [thenS, blockS])
      | (refine Tri.block_seq ?_)
      | (refine Tri.block_region ?_)
      | (refine Tri.block_cond ?_)
      | (refine Tri.exit ?_; simp [upd, hn, s13]; first | (rename ∀ st, Tri _ _ _ st _ → _ => hK; first | (apply hK; clear hK) | (clear hK; rename ∀ st, Tri _ _ _ st _ → _ => hK; first | (apply hK; clear hK) | (clear hK; rename ∀ st, Tri _ _ _ st _ → _ => hK; first | (apply hK; clear hK) | (clear hK; rename ∀ st, Tri _ _ _ st _ → _ => hK; first | (apply hK; clear hK) | (clear hK; rename ∀ st, Tri _ _ _ st _ → _ => hK; first | (apply hK; clear hK) | (clear hK; rename ∀ st, Tri _ _ _ st _ → _ => hK; apply hK; clear hK)))))) | skip)
      | (intro β)
      | (rename ∀ st, Tri _ _ _ st _ → _ => hK; apply hK; clear hK))
    refine Tri.ret ⟨_, rfl, ?_⟩
    simp [upd]
    exact Wk.refl _
end Go.Proofs.Ytngbpmiikpjiaaa
end
section
open Go Go.Vm
namespace Go.Proofs.Ytngbpmiikpjiaaa
set_option maxRecDepth 100000
set_option maxHeartbeats 4000000
set_option linter.unusedSimpArgs false
attribute [-simp] isObj C.isO
/-- The slots in which a frame was delivered. -/
structure Grp where
  f : Int
  n : Int
  l : List Int
def isF (f n : Int) (e : Grp) : Bool := f == e.f && n == e.n
def gpush (f n s : Int) : List Grp → List Grp
  | [] => [⟨f, n, [s]⟩]
  | g :: r => if isF f n g = true then ⟨g.f, g.n, g.l ++ [s]⟩ :: r else g :: gpush f n s r
def arr (l : List Del) : List Grp := l.foldl (fun d x => gpush x.flow x.frame x.slot d) []
def gC (g : Grp) : List C := [.int .i64 g.f, .int .i64 g.n, .sl false 1 none (I1 g.l)]
structure Ent where
  g : Grp
  key : Nat
  b : Nat
def eC (e : Ent) : List C := [.int .i64 e.g.f, .int .i64 e.g.n, .sl false 1 (some (e.key, e.b)) (I1 e.g.l)]
theorem gpush_none {f n s : Int} : ∀ {d : List Grp}, d.findIdx? (isF f n) = none → gpush f n s d = d ++ [⟨f, n, [s]⟩]
  | [], _ => rfl
  | g :: r, h => by
    rw [List.findIdx?_cons] at h
    split at h
    · cases h
    · rename_i hg
      rw [gpush, if_neg hg, gpush_none (by simpa using h)]
      rfl
theorem gpush_some {f n s : Int} : ∀ {d : List Grp} {i : Nat} (hi : i < d.length), d.findIdx? (isF f n) = some i → gpush f n s d = d.set i ⟨d[i].f, d[i].n, d[i].l ++ [s]⟩
  | g :: r, i, hi, h => by
    rw [List.findIdx?_cons] at h
    split at h
    · rename_i hg
      cases h
      rw [gpush, if_pos hg]
      rfl
    · rename_i hg
      cases hr : r.findIdx? (isF f n) with
      | none => rw [hr] at h; cases h
      | some j =>
        rw [hr] at h
        cases h
        rw [gpush, if_neg hg, gpush_some (by simpa using hi) hr]
        rfl
/-- The frames are apart. -/
def GAp (d : List Grp) : Prop := ∀ i j (_ : i < d.length) (_ : j < d.length), d[i].f = d[j].f → d[i].n = d[j].n → i = j
def slotsOf (f n : Int) (l : List Del) : List Int := (l.filter fun x => x.flow == f && x.frame == n).map (·.slot)
/-- What the groups say of a frame. -/
def gfind (f n : Int) (d : List Grp) : List Int := match d.find? (isF f n) with
  | some g => g.l
  | none => []
theorem gfind_push (f n s f' n' : Int) : ∀ d, gfind f' n' (gpush f n s d) = gfind f' n' d ++ (if f = f' ∧ n = n' then [s] else [])
  | [] => by
    by_cases h : f = f' ∧ n = n'
    · simp [gfind, gpush, isF, h]
    · have : isF f' n' ⟨f, n, [s]⟩ = false := by
        simp only [isF, Bool.and_eq_false_iff, beq_eq_false_iff_ne, ne_eq]
        omega
      simp [gfind, gpush, this, h]
  | g :: r => by
    have ih := gfind_push f n s f' n' r
    unfold gfind at ih ⊢
    rw [gpush]
    by_cases h1 : isF f n g = true
    · rw [if_pos h1, List.find?_cons, List.find?_cons]
      have e : isF f' n' ⟨g.f, g.n, g.l ++ [s]⟩ = isF f' n' g := rfl
      rw [e]
      simp only [isF, Bool.and_eq_true, beq_iff_eq] at h1
      cases h2 : isF f' n' g
      · have : ¬ (f = f' ∧ n = n') := by
          simp only [isF, Bool.and_eq_false_iff, beq_eq_false_iff_ne, ne_eq] at h2
          omega
        simp [this]
      · have : f = f' ∧ n = n' := by
          simp only [isF, Bool.and_eq_true, beq_iff_eq] at h2
          omega
        simp [this]
    · rw [if_neg h1, List.find?_cons, List.find?_cons]
      cases h2 : isF f' n' g
      · exact ih
      · have : ¬ (f = f' ∧ n = n') := by
          simp only [isF, Bool.and_eq_true, beq_iff_eq] at h2
          simp only [isF, Bool.and_eq_true, beq_iff_eq] at h1
          omega
        simp [this]
theorem arr_succ (l : List Del) (k : Nat) (hk : k < l.length) : arr (l.take (k + 1)) = gpush l[k].flow l[k].frame l[k].slot (arr (l.take k)) := by
  unfold arr
  rw [List.take_succ_eq_append_getElem hk, List.foldl_append]
  rfl
theorem gfind_arr (f n : Int) (l : List Del) : gfind f n (arr l) = slotsOf f n l := by
  have : ∀ k, k ≤ l.length → gfind f n (arr (l.take k)) = slotsOf f n (l.take k) := by
    intro k
    induction k with
    | zero => intro _; rfl
    | succ k ih =>
      intro hk
      have hk' : k < l.length := by omega
      rw [arr_succ l k hk', gfind_push, ih (by omega)]
      unfold slotsOf
      rw [List.take_succ_eq_append_getElem hk', List.filter_append, List.map_append]
      congr 1
      by_cases h : l[k].flow = f ∧ l[k].frame = n
      · simp [h]
      · rw [if_neg h, List.filter_cons, if_neg (by simpa using h)]
        rfl
  simpa using this l.length (by omega)
theorem gpush_len (f n s : Int) : ∀ d, (gpush f n s d).length ≤ d.length + 1
  | [] => by simp [gpush]
  | g :: r => by
    have := gpush_len f n s r
    rw [gpush]
    split <;> simp <;> omega
theorem arr_len (l : List Del) (k : Nat) : (arr (l.take k)).length ≤ k := by
  induction k with
  | zero => simp [arr]
  | succ k ih =>
    by_cases hk : k < l.length
    · rw [arr_succ l k hk]
      exact Nat.le_trans (gpush_len ..) (by omega)
    · rw [List.take_of_length_le (by omega)] at ih ⊢
      omega
end Go.Proofs.Ytngbpmiikpjiaaa
end
section
open Go Go.Vm
namespace Go.Proofs.Ytngbpmiikpjiaaa
set_option maxRecDepth 100000
set_option maxHeartbeats 4000000
set_option linter.unusedSimpArgs false
attribute [-simp] isObj C.isO
attribute [local irreducible] Tri Does DoesB DoesR Rounds check fault
theorem set_concat {α : Type} (l : List α) (z y : α) : (l ++ [z]).set l.length y = l ++ [y] := by
  rw [List.set_append_right _ _ (Nat.le_refl _)]
  simp
theorem ents_last {ents : List (List C)} {x x' : List C} {i : Nat} {c c' : List C} (h1 : (ents ++ [x])[i]? = some c) (h2 : (ents ++ [x'])[i]? = some c') : c' = c ∨ (c = x ∧ c' = x') := by
  by_cases hi : i < ents.length
  · rw [List.getElem?_append_left hi] at h1 h2
    rw [h1] at h2; cases h2; exact .inl rfl
  · have h3 := (List.getElem?_eq_some_iff.1 h1).1
    simp only [List.length_append, List.length_singleton] at h3
    obtain rfl : i = ents.length := by omega
    rw [List.getElem?_concat_length] at h1 h2
    cases h1; cases h2; exact .inr ⟨rfl, rfl⟩
structure AI (r : Rec) (k : Nat) (st : St) (bm : Nat) (d : List Ent) : Prop where
  hn : st.n = 32
  s10 : st.sl 10 = .c (.sl r.dn 3 none (r.dels.map delC))
  s3 : st.sl 3 = .c (.map 7 bm)
  x7 : st.bx 7 = some (bm, [.mapc true 2 false (d.map eC)])
  ha : arr (r.dels.take k) = d.map (·.g)
  hk : ∀ i (_ : i < d.length), d[i].key = 100 + i
  hr : ∀ i (_ : i < d.length), st.rw (100 + i) = some (d[i].b, d[i].g.l.length, 3, 1)
  hz : ∀ j, 100 + d.length ≤ j → st.rw j = none
  hl : ∀ i (_ : i < d.length), d[i].g.l.length ≤ k ∧ 0 < d[i].g.l.length
def AInv (r : Rec) (k : Nat) (st : St) : Prop := ∃ bm d, AI r k st bm d
def mkE (x : Del) (key b : Nat) : Ent := ⟨⟨x.flow, x.frame, [x.slot]⟩, key, b⟩
theorem new_group {r : Rec} {k bm β : Nat} {d : List Ent} {st : St} (hk : k < r.dels.length) (hn : st.n = 32) (s10 : st.sl 10 = .c (.sl r.dn 3 none (r.dels.map delC))) (s3 : st.sl 3 = .c (.map 7 bm))
    (x7 : st.bx 7 = some (bm, [.mapc true 2 false (d.map eC ++ [[.int .i64 r.dels[k].flow, .int .i64 r.dels[k].frame, .sl false 1 (some (28, β)) [[.int .i64 r.dels[k].slot]]]])]))
    (h28 : st.rw 28 = some (β, 1, 3, 1)) (ha : arr (r.dels.take k) = d.map (·.g)) (hkey : ∀ i (_ : i < d.length), d[i].key = 100 + i) (hr : ∀ i (_ : i < d.length), st.rw (100 + i) = some (d[i].b, d[i].g.l.length, 3, 1))
    (hz : ∀ j, 100 + d.length ≤ j → st.rw j = none) (hl2 : ∀ i (_ : i < d.length), d[i].g.l.length ≤ k ∧ 0 < d[i].g.l.length) (hf : d.findIdx? (fun x => isF r.dels[k].flow r.dels[k].frame x.g) = none) : TurnI (AInv r (k + 1)) st := by
  have t1 := Turn.rerow h28 (hz (100 + d.length) (by omega))
  have t2 := Turn.remap (st := { n := st.n, sl := st.sl, bx := st.bx, rw := upd (upd st.rw 28 none) (100 + d.length) (some (β, 1, 3, 1)) }) (ents' := (d ++ [mkE r.dels[k] (100 + d.length) β]).map eC) x7 (by simp) (by
    intro i c c' h1 h2
    rw [List.map_append] at h2
    rcases ents_last h1 h2 with rfl | ⟨rfl, rfl⟩
    · exact ⟨rfl, Nat.le_refl _, fun _ _ _ x => x⟩
    · exact ⟨rfl, Nat.le_refl _, fun _ _ _ x => x.wk (Wk.rekey _ _ _ _ _ _) rfl⟩)
  refine ⟨_, _, t1.trans t2, bm, d ++ [mkE r.dels[k] (100 + d.length) β], ⟨hn, s10, s3, by simp [upd], ?_, ?_, ?_, ?_, ?_⟩⟩
  · rw [arr_succ r.dels k hk, ha, gpush_none (by rw [List.findIdx?_map]; exact hf)]
    simp [mkE]
  · intro i hi
    rw [List.getElem_append]
    split
    · exact hkey i _
    · simp [mkE] at hi ⊢; omega
  · intro i hi
    by_cases hi' : i < d.length
    · rw [List.getElem_append_left hi']
      have := hr i hi'
      simp [upd, show 100 + i ≠ 28 by omega, this, show i ≠ d.length by omega]
    · obtain rfl : i = d.length := by simp at hi; omega
      simp [upd, mkE]
  · intro j hj
    simp only [List.length_append, List.length_singleton] at hj
    simp [upd, show j ≠ 28 by omega, show j ≠ 100 + d.length by omega, hz j (by omega)]
  · intro i hi
    by_cases hi' : i < d.length
    · rw [List.getElem_append_left hi']
      have := hl2 i hi'
      omega
    · obtain rfl : i = d.length := by simp at hi; omega
      simp [mkE]
theorem old_group {r : Rec} {k bm β i : Nat} {d : List Ent} {st : St} (hk : k < r.dels.length) (hi : i < d.length) (hn : st.n = 32) (s10 : st.sl 10 = .c (.sl r.dn 3 none (r.dels.map delC))) (s3 : st.sl 3 = .c (.map 7 bm))
    (x7 : st.bx 7 = some (bm, [.mapc true 2 false ((d.map eC).set i [.int .i64 d[i].g.f, .int .i64 d[i].g.n, .sl false 1 (some (100 + i, β)) (I1 d[i].g.l ++ [[.int .i64 r.dels[k].slot]])])]))
    (hr1 : st.rw (100 + i) = some (β, d[i].g.l.length + 1, 3, 1)) (ha : arr (r.dels.take k) = d.map (·.g)) (hkey : ∀ i (_ : i < d.length), d[i].key = 100 + i) (hr : ∀ j (_ : j < d.length), j ≠ i → st.rw (100 + j) = some (d[j].b, d[j].g.l.length, 3, 1))
    (hz : ∀ j, 100 + d.length ≤ j → st.rw j = none) (hl2 : ∀ i (_ : i < d.length), d[i].g.l.length ≤ k ∧ 0 < d[i].g.l.length) (hf : d.findIdx? (fun x => isF r.dels[k].flow r.dels[k].frame x.g) = some i) : TurnI (AInv r (k + 1)) st := by
  refine TurnI.of ⟨bm, d.set i ⟨⟨d[i].g.f, d[i].g.n, d[i].g.l ++ [r.dels[k].slot]⟩, 100 + i, β⟩, ⟨hn, s10, s3, ?_, ?_, ?_, ?_, ?_, ?_⟩⟩
  · rw [x7, List.map_set]
    simp [eC, I1]
  · rw [arr_succ r.dels k hk, ha, gpush_some (i := i) (by simpa using hi) (by rw [List.findIdx?_map]; exact hf), List.map_set]
    simp
  · intro j hj
    rw [List.getElem_set]
    split
    · subst_vars; rfl
    · exact hkey j _
  · intro j hj
    rw [List.length_set] at hj
    by_cases e : j = i
    · subst e
      rw [List.getElem_set_self, hr1]
      simp
    · rw [List.getElem_set_ne (fun e' => e e'.symm)]
      exact hr j hj e
  · intro j hj
    rw [List.length_set] at hj
    exact hz j hj
  · intro j hj
    have hj' : j < d.length := by simpa using hj
    by_cases e : j = i
    · subst e
      rw [List.getElem_set_self]
      have := hl2 j hj'
      simp; omega
    · rw [List.getElem_set_ne (fun e' => e e'.symm)]
      have := hl2 j hj'
      omega
theorem arrivals_does (r : Rec) (hl : r.dels.length ≤ 1048576) : DoesR Try.prog 41 [.agg (recC r)] (fun β => (.c (.map 7 (β 0)), [[.mapc true 2 false ((arr r.dels).map gC)]])) := by
  refine DoesR.of_body Try.func41 rfl (by kernel_rfl) rfl rfl (by simp) fun E => ?_
  simp only [recC]
  repeat (first
    | (refine Tri.seq fun K hK => ?_)
    | (refine Tri.region ?_; simp [upd])
    | (refine Tri.draw (by kernel_rfl) (by decide +kernel) ?_; simp [upd])
    | (refine Tri.cond_true ?_ ?_; (focus simp [upd]; done))
    | (refine Tri.cond_false ?_ ?_; (focus simp [upd]; done))
    | (refine Tri.skip ?_; simp only [thenS, blockS])
    | (refine Tri.block_seq ?_)
    | (refine Tri.block_region ?_)
    | (refine Tri.block_cond ?_)
    | (refine Tri.exit ?_; simp [upd]; first | (rename ∀ st, Tri _ _ _ st _ → _ => hK; first | (apply hK; clear hK) | (clear hK; rename ∀ st, Tri _ _ _ st _ → _ => hK; first | (apply hK; clear hK) | (clear hK; rename ∀ st, Tri _ _ _ st _ → _ => hK; first | (apply hK; clear hK) | (clear hK; rename ∀ st, Tri _ _ _ st _ → _ => hK; first | (apply hK; clear hK) | (clear hK; rename ∀ st, Tri _ _ _ st _ → _ => hK; first | (apply hK; clear hK) | (clear hK; rename ∀ st, Tri _ _ _ st _ → _ => hK; apply hK; clear hK)))))) | skip)
    | (intro β)
    | (rename ∀ st, Tri _ _ _ st _ → _ => hK; apply hK; clear hK))
  refine Tri.rangeT 12 11 13 30 32 rfl rfl r.dels.length (AInv r) (by simp) (by omega) ?_ rfl (by simp [upd]) (by simp [upd]) ?_ ?_ ?_
  · rintro k st t v ht ⟨bm, d, h⟩
    refine ⟨bm, d, ?_⟩
    rcases ht with rfl | rfl | rfl <;> exact ⟨h.hn, by simpa [upd] using h.s10, by simpa [upd] using h.s3, by simpa using h.x7, h.ha, h.hk, by simpa using h.hr, by simpa using h.hz, h.hl⟩
  · exact ⟨_, [], rfl, by simp [upd], by simp [upd] <;> exact rfl, by simp [upd] <;> exact rfl, rfl, fun i h => by simp at h, fun i h => by simp at h, fun j _ => by simp, fun i h => by simp at h⟩
  · rintro k st hk ⟨bm, d, ⟨-, s10, s3, x7, ha, hkey, hr, hz, hl2⟩⟩ hn h12 h11
    have hE : ∀ f n, findE [0, 1] 2 [.int .i64 f, .int .i64 n] (d.map eC) 0 = some ((d.findIdx? fun x => isF f n x.g).map (· + 0)) := fun f n => findE_map eC (fun e => e.g.f) (fun e => e.g.n) (fun e => rfl) f n d 0
    have hE := hE r.dels[k].flow r.dels[k].frame
    cases hf : d.findIdx? (fun x => isF r.dels[k].flow r.dels[k].frame x.g) with
    | none =>
      rw [hf] at hE
      simp only [Option.map_none] at hE
      generalize hents : d.map eC = ents at hE x7
      repeat (first
        | (refine Tri.seq fun K hK => ?_)
        | (refine Tri.region ?_; simp [upd, hn, s10, s3, x7, h12, h11, hk, hE, set_concat])
        | (refine Tri.draw (by kernel_rfl) (by decide +kernel) ?_; simp [upd, hn, s10, s3, x7, h12, h11, hk, hE, set_concat])
        | (refine Tri.cond_true ?_ ?_; (focus simp [upd, hn, s10, s3, x7, h12, h11, hk, hE, set_concat]; done))
        | (refine Tri.cond_false ?_ ?_; (focus simp [upd, hn, s10, s3, x7, h12, h11, hk, hE, set_concat]; done))
        | (refine Tri.skip ?_; simp only [thenS, blockS])
        | (refine Tri.block_seq ?_)
        | (refine Tri.block_region ?_)
        | (refine Tri.block_cond ?_)
        | (refine Tri.exit ?_; simp [upd, hn, s10, s3, x7, h12, h11, hk, hE, set_concat]; first | (rename ∀ st, Tri _ _ _ st _ → _ => hK; first | (apply hK; clear hK) | (clear hK; rename ∀ st, Tri _ _ _ st _ → _ => hK; first | (apply hK; clear hK) | (clear hK; rename ∀ st, Tri _ _ _ st _ → _ => hK; first | (apply hK; clear hK) | (clear hK; rename ∀ st, Tri _ _ _ st _ → _ => hK; first | (apply hK; clear hK) | (clear hK; rename ∀ st, Tri _ _ _ st _ → _ => hK; first | (apply hK; clear hK) | (clear hK; rename ∀ st, Tri _ _ _ st _ → _ => hK; apply hK; clear hK)))))) | skip)
        | (intro β)
        | (rename ∀ st, Tri _ _ _ st _ → _ => hK; apply hK; clear hK))
      subst hents
      exact new_group (β := β) hk rfl (by simpa [upd] using s10) (by simpa [upd] using s3) (by simp [upd]) (by simp [upd]) ha hkey (fun i hi => by simpa [upd, show 100 + i ≠ 28 by omega] using hr i hi) (fun j hj => by simpa [upd, show j ≠ 28 by omega] using hz j hj) hl2 hf
    | some i =>
      have hi : i < d.length := by
        have := (List.findIdx?_eq_some_iff_getElem.1 hf).1
        exact this
      rw [hf] at hE
      simp only [Option.map_some, Nat.add_zero] at hE
      have he : (d.map eC)[i]'(by simpa using hi) = [.int .i64 d[i].g.f, .int .i64 d[i].g.n, .sl false 1 (some (100 + i, d[i].b)) (I1 d[i].g.l)] := by
        rw [List.getElem_map, eC, hkey i hi]
      have hrw := hr i hi
      have hil : i < (d.map eC).length := by simpa using hi
      have hgl : (I1 d[i].g.l).length = d[i].g.l.length := by simp [I1]
      have hb : ((I1 d[i].g.l).length + 1) * 8 ≤ 140737488355328 := by have := hl2 i hi; omega
      rw [← hgl] at hrw
      obtain ⟨ents, hents⟩ : ∃ ents, ents = d.map eC := ⟨_, rfl⟩
      simp only [← hents] at hE x7 he hil
      repeat (first
        | (refine Tri.seq fun K hK => ?_)
        | (refine Tri.region ?_; simp [upd, hn, s10, s3, x7, h12, h11, hk, hE, he, hrw, hb, hil])
        | (refine Tri.draw (by kernel_rfl) (by decide +kernel) ?_; simp [upd, hn, s10, s3, x7, h12, h11, hk, hE, he, hrw, hb, hil])
        | (refine Tri.cond_true ?_ ?_; (focus simp [upd, hn, s10, s3, x7, h12, h11, hk, hE, he, hrw, hb, hil]; done))
        | (refine Tri.cond_false ?_ ?_; (focus simp [upd, hn, s10, s3, x7, h12, h11, hk, hE, he, hrw, hb, hil]; done))
        | (refine Tri.skip ?_; simp only [thenS, blockS])
        | (refine Tri.block_seq ?_)
        | (refine Tri.block_region ?_)
        | (refine Tri.block_cond ?_)
        | (refine Tri.exit ?_; simp [upd, hn, s10, s3, x7, h12, h11, hk, hE, he, hrw, hb, hil]; first | (rename ∀ st, Tri _ _ _ st _ → _ => hK; first | (apply hK; clear hK) | (clear hK; rename ∀ st, Tri _ _ _ st _ → _ => hK; first | (apply hK; clear hK) | (clear hK; rename ∀ st, Tri _ _ _ st _ → _ => hK; first | (apply hK; clear hK) | (clear hK; rename ∀ st, Tri _ _ _ st _ → _ => hK; first | (apply hK; clear hK) | (clear hK; rename ∀ st, Tri _ _ _ st _ → _ => hK; first | (apply hK; clear hK) | (clear hK; rename ∀ st, Tri _ _ _ st _ → _ => hK; apply hK; clear hK)))))) | skip)
        | (intro β)
        | (rename ∀ st, Tri _ _ _ st _ → _ => hK; apply hK; clear hK))
      subst hents
      rw [hgl] at *
      refine old_group (β := β) hk hi rfl (by simpa [upd] using s10) (by simpa [upd] using s3) (by simp [upd]) (by simp [upd]) ha hkey (fun j hj hji => by simpa [upd, show j ≠ i from hji] using hr j hj) (fun j hj => by simpa [upd, show j ≠ 100 + i by omega] using hz j hj) hl2 hf
  · rintro st hti hn
    rename ∀ st, Tri _ _ _ st _ → _ => hK
    apply hK
    refine Tri.ti hti ?_
    rintro st ⟨bm, d, ⟨hn, s10, s3, x7, ha, hkey, hr, hz, hl2⟩⟩
    rw [List.take_length] at ha
    rw [ha]
    have t := Turn.remap (st := st) (ents' := (d.map (·.g)).map gC) x7 (by simp) (by
      intro i c c' h1 h2
      rw [List.getElem?_map] at h1 h2
      rw [List.getElem?_map] at h2
      cases hd : d[i]? with
      | none => rw [hd] at h1; cases h1
      | some e =>
        rw [hd] at h1 h2
        cases h1
        cases h2
        exact ⟨rfl, Nat.le_refl _, fun _ _ _ x => x.wk (Wk.untag _ _ _ _) rfl⟩)
    refine Tri.turn t ?_
    generalize (d.map (·.g)).map gC = ents at *
    repeat (first
      | (refine Tri.seq fun K hK => ?_)
      | (refine Tri.region ?_; simp [upd, hn, s3])
      | (refine Tri.draw (by kernel_rfl) (by decide +kernel) ?_; simp [upd, hn, s3])
      | (refine Tri.cond_true ?_ ?_; (focus simp [upd, hn, s3]; done))
      | (refine Tri.cond_false ?_ ?_; (focus simp [upd, hn, s3]; done))
      | (refine Tri.skip ?_; simp only [thenS, blockS])
      | (refine Tri.block_seq ?_)
      | (refine Tri.block_region ?_)
      | (refine Tri.block_cond ?_)
      | (refine Tri.exit ?_; simp [upd, hn, s3]; first | (rename ∀ st, Tri _ _ _ st _ → _ => hK; first | (apply hK; clear hK) | (clear hK; rename ∀ st, Tri _ _ _ st _ → _ => hK; first | (apply hK; clear hK) | (clear hK; rename ∀ st, Tri _ _ _ st _ → _ => hK; first | (apply hK; clear hK) | (clear hK; rename ∀ st, Tri _ _ _ st _ → _ => hK; first | (apply hK; clear hK) | (clear hK; rename ∀ st, Tri _ _ _ st _ → _ => hK; first | (apply hK; clear hK) | (clear hK; rename ∀ st, Tri _ _ _ st _ → _ => hK; apply hK; clear hK)))))) | skip)
      | (intro β)
      | (rename ∀ st, Tri _ _ _ st _ → _ => hK; apply hK; clear hK))
    exact Tri.ret ⟨.inr rfl, _, rfl, fun _ => bm, [7], by simp [upd]; exact Wk.refl _, fun i cs h => by
      match i, h with
      | 0, h => simp at h; exact ⟨7, rfl, by simp [upd, h]⟩
      | i + 1, h => simp at h, by simp⟩
end Go.Proofs.Ytngbpmiikpjiaaa
end
section
open Go Go.Vm
namespace Go.Proofs.Ytngbpmiikpjiaaa
set_option maxRecDepth 100000
set_option maxHeartbeats 4000000
set_option linter.unusedSimpArgs false
attribute [-simp] isObj C.isO
/-- What is found in the map of arrivals. -/
theorem look_arr (f n : Int) (l : List Del) : (findE [0, 1] 2 [.int .i64 f, .int .i64 n] ((arr l).map gC) 0 = some none ∧ slotsOf f n l = []) ∨
    ∃ (i : Nat) (hi : i < ((arr l).map gC).length) (f' n' : Int), findE [0, 1] 2 [.int .i64 f, .int .i64 n] ((arr l).map gC) 0 = some (some i) ∧ ((arr l).map gC)[i] = [.int .i64 f', .int .i64 n', .sl false 1 none (I1 (slotsOf f n l))] := by
  have h := findE_map gC (fun g => g.f) (fun g => g.n) (fun _ => rfl) f n (arr l) 0
  change findE _ _ _ _ _ = some (((arr l).findIdx? (isF f n)).map (· + 0)) at h
  have hg := gfind_arr f n l
  unfold gfind at hg
  cases hf : (arr l).findIdx? (isF f n) with
  | none =>
    refine .inl ⟨by rw [h, hf]; rfl, ?_⟩
    have : (arr l).find? (isF f n) = none := List.find?_eq_none.2 fun x hx => by simpa using List.findIdx?_eq_none_iff.1 hf x hx
    rw [this] at hg
    exact hg.symm
  | some i =>
    obtain ⟨h1, h2, h3⟩ := List.findIdx?_eq_some_iff_getElem.1 hf
    have : (arr l).find? (isF f n) = some (arr l)[i] := by
      rw [List.find?_eq_some_iff_getElem]
      exact ⟨h2, i, h1, rfl, fun j hj => by simpa using h3 j hj⟩
    rw [this] at hg
    simp only at hg
    refine .inr ⟨i, by simpa using h1, (arr l)[i].f, (arr l)[i].n, by rw [h, hf]; rfl, ?_⟩
    rw [List.getElem_map, gC, hg]
structure Lat where
  f : Int
  n : Int
  s : Int
@[simp] def latC (x : Lat) : List C := [.int .i64 x.f, .int .i64 x.n, .int .i64 x.s]
/-- A frame that is late. -/
def late1 (f : Flo) (dels : List Del) (k : Nat) : List Lat := if (arrI f k (slotsOf f.id k dels)).2 = true then [] else [⟨f.id, k, (arrI f k (slotsOf f.id k dels)).1⟩]
def lateF (f : Flo) (r : Rec) : List Lat := (List.range (compI f r.slots).toNat).flatMap (late1 f r.dels)
def lates (l : List Flo) (r : Rec) : List Lat := l.flatMap fun f => lateF f r
def lateN (l : List Flo) (r : Rec) : List Lat := if flowsE l = 0 ∧ check r = 0 then lates l r else []
def lateE (l : List Flo) (r : Rec) : Int := if flowsE l = 0 ∧ check r = 0 then 0 else 1
theorem comp_b {f : Flo} {s : Int} (h : fault 32 f = 0) (h0 : 0 ≤ s) (h1 : s ≤ 4096) : 0 ≤ compI f s ∧ compI f s ≤ 4097 := by
  obtain ⟨-, -, -, -, p1, p2, q0, q1, d1, d2, ne⟩ := fault_ok h
  unfold compI
  split
  · have b0 : 0 ≤ (s - f.pha - f.dea).tdiv f.per := Int.tdiv_nonneg (by omega) (by omega)
    have b1 : (s - f.pha - f.dea).tdiv f.per ≤ s - f.pha - f.dea := Int.tdiv_le_self _ (by omega)
    omega
  · omega
theorem late1_len (f : Flo) (d : List Del) (k : Nat) : (late1 f d k).length ≤ 1 := by
  unfold late1; split <;> simp
theorem flatMap_le {α β : Type} (g : α → List β) (c : Nat) : ∀ (l : List α), (∀ x ∈ l, (g x).length ≤ c) → (l.flatMap g).length ≤ l.length * c
  | [], _ => by simp
  | x :: r, h => by
    rw [List.flatMap_cons, List.length_append, List.length_cons, Nat.add_mul]
    have a := h x (List.mem_cons_self ..)
    have b := flatMap_le g c r fun y hy => h y (List.mem_cons_of_mem _ hy)
    omega
theorem range_take (n k : Nat) (h : k ≤ n) : (List.range n).take k = List.range k := by
  apply List.ext_getElem
  · simp; omega
  · intro i h1 h2; simp
theorem lateF_len (f : Flo) (r : Rec) (h : fault 32 f = 0) (h0 : 0 ≤ r.slots) (h1 : r.slots ≤ 4096) : (lateF f r).length ≤ 4097 := by
  have := flatMap_le (late1 f r.dels) 1 (List.range (compI f r.slots).toNat) (fun x _ => late1_len f r.dels x)
  have := comp_b h h0 h1
  unfold lateF
  rw [List.length_range] at *
  omega
theorem flows_ok {l : List Flo} (h : flowsE l = 0) : l.length ≤ 16 ∧ (∀ i (_ : i < l.length), fault 32 l[i] = 0) ∧ ∀ i j (_ : i < l.length) (_ : j < l.length), i < j → l[i].id < l[j].id := by
  unfold flowsE flowsCheck at h
  rw [if_neg (by omega)] at h
  split at h
  · simp at h
  · rename_i hl
    refine ⟨by omega, ?_⟩
    have key : ∀ (r : List Flo) (p : Option Flo) (i : Nat), (flowsGo 32 p r i).2 = 0 → (∀ j (_ : j < r.length), fault 32 r[j] = 0) ∧ (∀ j k (_ : j < r.length) (_ : k < r.length), j < k → r[j].id < r[k].id) ∧ ∀ q, p = some q → ∀ j (_ : j < r.length), q.id < r[j].id := by
      intro r
      induction r with
      | nil => intro p i _; exact ⟨fun j h => by simp at h, fun j k h => by simp at h, fun q _ j h => by simp at h⟩
      | cons f r ih =>
        intro p i h
        rw [flowsGo] at h
        split at h
        · rename_i hf
          split at h
          · simp at h
          · rename_i hu
            obtain ⟨a1, a2, a3⟩ := ih _ _ h
            refine ⟨fun j hj => ?_, fun j k hj hk hjk => ?_, fun q hq j hj => ?_⟩
            · cases j with
              | zero => exact hf
              | succ j => exact a1 j (by simpa using hj)
            · cases k with
              | zero => omega
              | succ k =>
                cases j with
                | zero => exact a3 f rfl k (by simpa using hk)
                | succ j => exact a2 j k (by simpa using hj) (by simpa using hk) (by omega)
            · subst hq
              simp only [notUp, decide_eq_true_eq] at hu
              cases j with
              | zero => simp only [List.getElem_cons_zero]; omega
              | succ j =>
                have := a3 f rfl j (by simpa using hj)
                simp only [List.getElem_cons_succ]
                omega
        · simp only at h
          rename_i hf
          exact absurd h hf
    obtain ⟨a1, a2, -⟩ := key l none 0 h
    exact ⟨a1, a2⟩
end Go.Proofs.Ytngbpmiikpjiaaa
end
section
open Go Go.Vm
namespace Go.Proofs.Ytngbpmiikpjiaaa
set_option maxRecDepth 100000
set_option maxHeartbeats 4000000
set_option linter.unusedSimpArgs false
attribute [-simp] isObj C.isO
theorem check_slots {r : Rec} (h : check r = 0) : 0 ≤ r.slots ∧ r.slots ≤ 4096 := by
  unfold check at h
  split at h
  · rename_i hb
    unfold checkB at hb
    simp only [Bool.and_eq_true, decide_eq_true_eq] at hb
    exact ⟨hb.1, hb.2.1⟩
  · cases h
theorem slotsOf_le (f n : Int) (l : List Del) : (slotsOf f n l).length ≤ l.length := by
  unfold slotsOf
  rw [List.length_map]
  exact List.length_filter_le ..
attribute [local irreducible] Tri Does DoesB DoesR Rounds check fault flowsE arr slotsOf
/-- arrival, with what the map of arrivals gives. -/
theorem arrival_at (f : Flo) (k : Nat) (r : Rec) (h : fault 32 f = 0) (hk : k ≤ 4097) (hl : r.dels.length ≤ 65536) (nl : Bool) :
    Does Try.prog 43 [.agg (floC f), .c (.int .i64 (k : Nat)), .c (.sl nl 1 none (I1 (slotsOf f.id k r.dels)))] (.tup [.c (.int .i64 (arrI f k (slotsOf f.id k r.dels)).1), .c (.bool (arrI f k (slotsOf f.id k r.dels)).2)]) :=
  arrival_does f k (slotsOf f.id k r.dels) nl h (by omega) (by omega) (by have := slotsOf_le f.id k r.dels; omega)
theorem arrival_at0 (f : Flo) (k : Nat) (r : Rec) (h : fault 32 f = 0) (hk : k ≤ 4097) (hl : r.dels.length ≤ 65536) (he : slotsOf f.id k r.dels = []) :
    Does Try.prog 43 [.agg (floC f), .c (.int .i64 (k : Nat)), .c (.sl true 1 none [])] (.tup [.c (.int .i64 (arrI f k (slotsOf f.id k r.dels)).1), .c (.bool (arrI f k (slotsOf f.id k r.dels)).2)]) := by
  have := arrival_at f k r h hk hl true
  rw [he] at this ⊢
  exact this
structure LJ (l : List Flo) (nl : Bool) (r : Rec) (ents : List (List C)) (st : St) (b3 bm : Nat) (acc : List Lat) : Prop where
  hn : st.n = 56
  s3 : st.sl 3 = .c (.box 3 b3 0)
  x3 : st.bx 3 = some (b3, recC r)
  s6 : st.sl 6 = .c (.map 100 bm)
  x6 : st.bx 100 = some (bm, [.mapc true 2 false ents])
  s19 : st.sl 19 = .c (.sl nl 6 none (l.map floC))
  g7 : Grows st (st.sl 7) 52 68 3 (acc.map latC)
theorem LJ.put {l : List Flo} {nl : Bool} {r : Rec} {ents : List (List C)} {st : St} {b3 bm : Nat} {acc : List Lat} (h : LJ l nl r ents st b3 bm acc) (t : Nat) (v : V) (ht : t ≠ 3 ∧ t ≠ 6 ∧ t ≠ 7 ∧ t ≠ 19) : LJ l nl r ents (st.put (some t) v) b3 bm acc := by
  obtain ⟨h1, h2, h3, h4⟩ := ht
  exact ⟨h.hn, by simpa [upd, h1.symm] using h.s3, h.x3, by simpa [upd, h2.symm] using h.s6, h.x6, by simpa [upd, h4.symm] using h.s19, by simpa [upd, h3.symm, Grows] using h.g7⟩
def LInv1 (l : List Flo) (nl : Bool) (r : Rec) (ents : List (List C)) (k : Nat) (st : St) : Prop := ∃ b3 bm, LJ l nl r ents st b3 bm ((l.take k).flatMap fun f => lateF f r)
def LInv2 (l : List Flo) (nl : Bool) (r : Rec) (ents : List (List C)) (k : Nat) (f : Flo) (j : Nat) (st : St) : Prop := ∃ b3 bm b9, LJ l nl r ents st b3 bm (((l.take k).flatMap fun f => lateF f r) ++ (List.range j).flatMap (late1 f r.dels)) ∧
  st.sl 9 = .c (.box 9 b9 0) ∧ st.bx 9 = some (b9, floC f) ∧ st.sl 21 = .c (.int .i64 k) ∧ st.sl 20 = .c (.int .i64 l.length)
theorem late_does (l : List Flo) (nl : Bool) (r : Rec) : Does Try.prog 11 [.c (.sl nl 6 none (l.map floC)), .agg (recC r)] (.tup [.c (.sl (lateN l r).isEmpty 3 none ((lateN l r).map latC)), .c (.int .i64 (lateE l r))]) := by
  refine Does.of_body Try.func11 rfl (by kernel_rfl) rfl rfl (by simp) ?_
  intro E
  have hr := right_does l nl r
  cases hg : (flowsE l == 0 && check r == 0)
  case false =>
    have e1 : lateN l r = [] := by rw [lateN, if_neg (by simpa using hg)]
    have e2 : lateE l r = 1 := by rw [lateE, if_neg (by simpa using hg)]
    rw [e1, e2]
    rw [hg] at hr
    simp only [recC] at hr ⊢
    repeat (first
      | (refine Tri.seq fun K hK => ?_)
      | (refine Tri.region ?_; simp [upd])
      | (refine Tri.draw (by kernel_rfl) (by decide +kernel) ?_; simp [upd])
      | (refine Tri.cond_true ?_ ?_; (focus simp [upd]; done))
      | (refine Tri.cond_false ?_ ?_; (focus simp [upd]; done))
      | (refine Tri.skip ?_; simp only [thenS, blockS])
      | (refine Tri.block_seq ?_)
      | (refine Tri.block_region ?_)
      | (refine Tri.block_cond ?_)
      | ((with_reducible refine CallK.pure (hr) (Wks.refl _) ?_); simp [upd])
      | (refine Tri.exit ?_; simp [upd]; first | (rename ∀ st, Tri _ _ _ st _ → _ => hK; first | (apply hK; clear hK) | (clear hK; rename ∀ st, Tri _ _ _ st _ → _ => hK; first | (apply hK; clear hK) | (clear hK; rename ∀ st, Tri _ _ _ st _ → _ => hK; first | (apply hK; clear hK) | (clear hK; rename ∀ st, Tri _ _ _ st _ → _ => hK; first | (apply hK; clear hK) | (clear hK; rename ∀ st, Tri _ _ _ st _ → _ => hK; first | (apply hK; clear hK) | (clear hK; rename ∀ st, Tri _ _ _ st _ → _ => hK; apply hK; clear hK)))))) | skip)
      | (intro β)
      | (rename ∀ st, Tri _ _ _ st _ → _ => hK; apply hK; clear hK))
    refine Tri.ret ⟨_, rfl, ?_⟩
    simp [upd]
    exact .tup2 (.nil _ _ _ _) (.refl _)
  rw [hg] at hr
  simp only [Bool.and_eq_true, beq_iff_eq] at hg
  have e1 : lateN l r = lates l r := by rw [lateN, if_pos hg]
  have e2 : lateE l r = 0 := by rw [lateE, if_pos hg]
  rw [e1, e2]
  obtain ⟨hl16, hfa, -⟩ := flows_ok hg.1
  obtain ⟨hs0, hs1⟩ := check_slots hg.2
  obtain ⟨hl1, hl2⟩ := check_lens hg.2
  have ha := arrivals_does r (by omega)
  have hlook := fun f n => look_arr f n r.dels
  generalize (arr r.dels).map gC = ents at ha hlook
  simp only [recC] at hr ha ⊢
  repeat (first
    | (refine Tri.seq fun K hK => ?_)
    | (refine Tri.region ?_; simp [upd])
    | (refine Tri.draw (by kernel_rfl) (by decide +kernel) ?_; simp [upd])
    | (refine Tri.cond_true ?_ ?_; (focus simp [upd]; done))
    | (refine Tri.cond_false ?_ ?_; (focus simp [upd]; done))
    | (refine Tri.skip ?_; simp only [thenS, blockS])
    | (refine Tri.block_seq ?_)
    | (refine Tri.block_region ?_)
    | (refine Tri.block_cond ?_)
    | ((with_reducible refine CallK.pure (hr) (Wks.refl _) ?_); simp [upd])
    | (with_reducible (show CallK _ false 41 _ _ _ _); refine CallK.fresh ha [100] (fun β => .c (.map 100 (β 0))) (Wks.refl _) (fun β => Wk.map _ _ _) (fun _ => rfl) ?_; intro β; simp [upd])
    | (refine Tri.exit ?_; simp [upd]; first | (rename ∀ st, Tri _ _ _ st _ → _ => hK; first | (apply hK; clear hK) | (clear hK; rename ∀ st, Tri _ _ _ st _ → _ => hK; first | (apply hK; clear hK) | (clear hK; rename ∀ st, Tri _ _ _ st _ → _ => hK; first | (apply hK; clear hK) | (clear hK; rename ∀ st, Tri _ _ _ st _ → _ => hK; first | (apply hK; clear hK) | (clear hK; rename ∀ st, Tri _ _ _ st _ → _ => hK; first | (apply hK; clear hK) | (clear hK; rename ∀ st, Tri _ _ _ st _ → _ => hK; apply hK; clear hK)))))) | skip)
    | (intro β)
    | (rename ∀ st, Tri _ _ _ st _ → _ => hK; apply hK; clear hK))
  have hlen : ∀ k, k ≤ l.length → ((l.take k).flatMap fun f => lateF f r).length ≤ k * 4097 := fun k hk => by
    have := flatMap_le (fun f => lateF f r) 4097 (l.take k) (fun f hf => by
      obtain ⟨i, hi, rfl⟩ := List.getElem_of_mem (List.mem_of_mem_take hf)
      exact lateF_len _ r (hfa i hi) hs0 hs1)
    rwa [List.length_take_of_le hk] at this
  refine Tri.range 21 20 22 54 56 rfl rfl l.length (LInv1 l nl r ents) (by simp) (by omega) ?_ rfl (by simp [upd]) (by simp [upd]) ?_ ?_ ?_
  · rintro k st t v ht ⟨b3, bm, h⟩
    exact ⟨b3, bm, h.put t v (by omega)⟩
  · exact ⟨_, _, ⟨rfl, by simp [upd] <;> exact rfl, by simp [upd, recC], by simp [upd] <;> exact rfl, by simp [upd] <;> exact rfl, by simp [upd], by simp [upd, Grows]⟩⟩
  · rintro k st hk ⟨b3, bm, ⟨-, s3, x3, s6, x6, s19, g7⟩⟩ hn h21 h20
    have hf := hfa k hk
    have hc := complete_does l[k] r hf hs0 hs1
    have hcb := comp_b hf hs0 hs1
    have hcn : compI l[k] r.slots = (((compI l[k] r.slots).toNat : Nat) : Int) := by omega
    have hlk := hlen k (by omega)
    have htk : (l.take (k + 1)).flatMap (fun f => lateF f r) = (l.take k).flatMap (fun f => lateF f r) ++ (List.range (compI l[k] r.slots).toNat).flatMap (late1 l[k] r.dels) := by
      rw [List.take_succ_eq_append_getElem hk, List.flatMap_append]; simp [lateF]
    have hcl : (compI l[k] r.slots).toNat ≤ 4097 := by omega
    rw [hcn] at hc
    generalize (compI l[k] r.slots).toNat = m at *
    simp only [recC] at x3 hc
    repeat (first
      | (refine Tri.seq fun K hK => ?_)
      | (refine Tri.region ?_; simp [upd, hn, s3, x3, s6, x6, s19, h21, h20, hk])
      | (refine Tri.draw (by kernel_rfl) (by decide +kernel) ?_; simp [upd, hn, s3, x3, s6, x6, s19, h21, h20, hk])
      | (refine Tri.cond_true ?_ ?_; (focus simp [upd, hn, s3, x3, s6, x6, s19, h21, h20, hk]; done))
      | (refine Tri.cond_false ?_ ?_; (focus simp [upd, hn, s3, x3, s6, x6, s19, h21, h20, hk]; done))
      | (refine Tri.skip ?_; simp only [thenS, blockS])
      | (refine Tri.block_seq ?_)
      | (refine Tri.block_region ?_)
      | (refine Tri.block_cond ?_)
      | ((with_reducible refine CallK.pure (hc) (Wks.refl _) ?_); simp [upd, hn, s3, x3, s6, x6, s19, h21, h20, hk])
      | (refine Tri.exit ?_; simp [upd, hn, s3, x3, s6, x6, s19, h21, h20, hk]; first | (rename ∀ st, Tri _ _ _ st _ → _ => hK; first | (apply hK; clear hK) | (clear hK; rename ∀ st, Tri _ _ _ st _ → _ => hK; first | (apply hK; clear hK) | (clear hK; rename ∀ st, Tri _ _ _ st _ → _ => hK; first | (apply hK; clear hK) | (clear hK; rename ∀ st, Tri _ _ _ st _ → _ => hK; first | (apply hK; clear hK) | (clear hK; rename ∀ st, Tri _ _ _ st _ → _ => hK; first | (apply hK; clear hK) | (clear hK; rename ∀ st, Tri _ _ _ st _ → _ => hK; apply hK; clear hK)))))) | skip)
      | (intro β)
      | (rename ∀ st, Tri _ _ _ st _ → _ => hK; apply hK; clear hK))
    refine Tri.range 28 27 29 53 56 rfl rfl m (LInv2 l nl r ents k l[k]) (by simp) (by omega) ?_ rfl (by simp [upd]) (by simp [upd]) ?_ ?_ ?_
    · rintro j st t v ht ⟨b3, bm, b9, h, s9, x9, t21, t20⟩
      refine ⟨b3, bm, b9, h.put t v (by omega), ?_, x9, ?_, ?_⟩
      · rcases ht with rfl | rfl | rfl <;> simpa [upd] using s9
      · rcases ht with rfl | rfl | rfl <;> simpa [upd] using t21
      · rcases ht with rfl | rfl | rfl <;> simpa [upd] using t20
    · exact ⟨b3, bm, _, ⟨rfl, by simp [upd, s3], by simp [upd, x3, recC], by simp [upd, s6], by simp [upd, x6], by simp [upd, s19], by simpa [upd, Grows] using g7⟩, by simp [upd] <;> exact rfl, by simp [upd] <;> exact rfl, by simp [upd, h21], by simp [upd, h20]⟩
    · rintro j st hj ⟨b3, bm, b9, ⟨-, s3, x3, s6, x6, s19, g7⟩, s9, x9, t21, t20⟩ hn h28 h27
      have hacc : (((l.take k).flatMap fun f => lateF f r) ++ (List.range j).flatMap (late1 l[k] r.dels)).length ≤ k * 4097 + j := by
        rw [List.length_append]
        have := flatMap_le (late1 l[k] r.dels) 1 (List.range j) (fun x _ => late1_len l[k] r.dels x)
        rw [List.length_range] at this
        omega
      have hnx : ((l.take k).flatMap fun f => lateF f r) ++ (List.range (j + 1)).flatMap (late1 l[k] r.dels) = (((l.take k).flatMap fun f => lateF f r) ++ (List.range j).flatMap (late1 l[k] r.dels)) ++ late1 l[k] r.dels j := by
        rw [List.range_succ, List.flatMap_append, List.append_assoc]; simp
      generalize ((l.take k).flatMap fun f => lateF f r) ++ (List.range j).flatMap (late1 l[k] r.dels) = acc at *
      have hj1 : (j : Int) < (m : Int) := by omega
      rcases hlook l[k].id j with ⟨hE, hem⟩ | ⟨i, hi, f', n', hE, he⟩
      · have hA := arrival_at0 l[k] j r hf (by omega) (by omega) hem
        cases hb : (arrI l[k] j (slotsOf l[k].id j r.dels)).2
        case true =>
          have h0 : late1 l[k] r.dels j = [] := by rw [late1, if_pos hb]
          rw [h0, List.append_nil] at hnx
          rw [hb] at hA
          repeat (first
            | (refine Tri.seq fun K hK => ?_)
            | (refine Tri.region ?_; simp [upd, hn, s3, x3, s6, x6, s19, s9, x9, t21, t20, h28, h27, hj, hj1, hE])
            | (refine Tri.draw (by kernel_rfl) (by decide +kernel) ?_; simp [upd, hn, s3, x3, s6, x6, s19, s9, x9, t21, t20, h28, h27, hj, hj1, hE])
            | (refine Tri.draw2 [] [0, 1, 2, 3, 4, 5, 6, 7, 8, 9, 10, 11, 12, 13] [] [] (by kernel_rfl) (by kernel_rfl) (by decide) (by rfl) (by decide +kernel) ?_; simp [upd, hn, s3, x3, s6, x6, s19, s9, x9, t21, t20, h28, h27, hj, hj1, hE])
            | (refine Tri.cond_true ?_ ?_; (focus simp [upd, hn, s3, x3, s6, x6, s19, s9, x9, t21, t20, h28, h27, hj, hj1, hE]; done))
            | (refine Tri.cond_false ?_ ?_; (focus simp [upd, hn, s3, x3, s6, x6, s19, s9, x9, t21, t20, h28, h27, hj, hj1, hE]; done))
            | (refine Tri.skip ?_; simp only [thenS, blockS])
            | (refine Tri.block_seq ?_)
            | (refine Tri.block_region ?_)
            | (refine Tri.block_cond ?_)
            | (refine CallK.pure hA (⟨.refl _, .refl _, .nil _ _ _ _, trivial⟩) ?_; simp [upd, hn, s3, x3, s6, x6, s19, s9, x9, t21, t20, h28, h27, hj, hj1, hE])
            | (refine Tri.exit ?_; simp [upd, hn, s3, x3, s6, x6, s19, s9, x9, t21, t20, h28, h27, hj, hj1, hE]; first | (rename ∀ st, Tri _ _ _ st _ → _ => hK; first | (apply hK; clear hK) | (clear hK; rename ∀ st, Tri _ _ _ st _ → _ => hK; first | (apply hK; clear hK) | (clear hK; rename ∀ st, Tri _ _ _ st _ → _ => hK; first | (apply hK; clear hK) | (clear hK; rename ∀ st, Tri _ _ _ st _ → _ => hK; first | (apply hK; clear hK) | (clear hK; rename ∀ st, Tri _ _ _ st _ → _ => hK; first | (apply hK; clear hK) | (clear hK; rename ∀ st, Tri _ _ _ st _ → _ => hK; apply hK; clear hK)))))) | skip)
            | (intro β)
            | (rename ∀ st, Tri _ _ _ st _ → _ => hK; apply hK; clear hK))
          refine ⟨⟨b3, bm, b9, ⟨rfl, by simp [upd, s3], by simp [upd, x3], by simp [upd, s6], by simp [upd, x6], by simp [upd, s19], by rw [hnx]; simpa [upd, Grows] using g7⟩, by simp [upd, s9], by simp [upd, x9], by simp [upd, t21], by simp [upd, t20]⟩, ?_⟩
          simp [upd, h28, h27]
        case false =>
          have h0 : late1 l[k] r.dels j = [⟨l[k].id, j, (arrI l[k] j (slotsOf l[k].id j r.dels)).1⟩] := by rw [late1, if_neg (by simp [hb])]
          rw [h0] at hnx
          rw [hb] at hA
          generalize (arrI l[k] j (slotsOf l[k].id j r.dels)).1 = s0 at *
          rcases g7 with ⟨hnil, n0, own, g7⟩ | ⟨hne, b, g7, hrw⟩
          · have hnil' : acc = [] := by simpa using hnil
            subst hnil'
            repeat (first
              | (refine Tri.seq fun K hK => ?_)
              | (refine Tri.region ?_; simp [upd, hn, s3, x3, s6, x6, s19, s9, x9, t21, t20, h28, h27, hj, hj1, g7, hE])
              | (refine Tri.draw (by kernel_rfl) (by decide +kernel) ?_; simp [upd, hn, s3, x3, s6, x6, s19, s9, x9, t21, t20, h28, h27, hj, hj1, g7, hE])
              | (refine Tri.draw2 [] [0, 1, 2, 3, 4, 5, 6, 7, 8, 9, 10, 11, 12, 13] [] [] (by kernel_rfl) (by kernel_rfl) (by decide) (by rfl) (by decide +kernel) ?_; simp [upd, hn, s3, x3, s6, x6, s19, s9, x9, t21, t20, h28, h27, hj, hj1, g7, hE])
              | (refine Tri.cond_true ?_ ?_; (focus simp [upd, hn, s3, x3, s6, x6, s19, s9, x9, t21, t20, h28, h27, hj, hj1, g7, hE]; done))
              | (refine Tri.cond_false ?_ ?_; (focus simp [upd, hn, s3, x3, s6, x6, s19, s9, x9, t21, t20, h28, h27, hj, hj1, g7, hE]; done))
              | (refine Tri.skip ?_; simp only [thenS, blockS])
              | (refine Tri.block_seq ?_)
              | (refine Tri.block_region ?_)
              | (refine Tri.block_cond ?_)
              | (refine CallK.pure hA (⟨.refl _, .refl _, .nil _ _ _ _, trivial⟩) ?_; simp [upd, hn, s3, x3, s6, x6, s19, s9, x9, t21, t20, h28, h27, hj, hj1, g7, hE])
              | (refine Tri.exit ?_; simp [upd, hn, s3, x3, s6, x6, s19, s9, x9, t21, t20, h28, h27, hj, hj1, g7, hE]; first | (rename ∀ st, Tri _ _ _ st _ → _ => hK; first | (apply hK; clear hK) | (clear hK; rename ∀ st, Tri _ _ _ st _ → _ => hK; first | (apply hK; clear hK) | (clear hK; rename ∀ st, Tri _ _ _ st _ → _ => hK; first | (apply hK; clear hK) | (clear hK; rename ∀ st, Tri _ _ _ st _ → _ => hK; first | (apply hK; clear hK) | (clear hK; rename ∀ st, Tri _ _ _ st _ → _ => hK; first | (apply hK; clear hK) | (clear hK; rename ∀ st, Tri _ _ _ st _ → _ => hK; apply hK; clear hK)))))) | skip)
              | (intro β)
              | (rename ∀ st, Tri _ _ _ st _ → _ => hK; apply hK; clear hK))
            exact ⟨b3, bm, b9, ⟨rfl, by simp [upd, s3], by simp [upd, x3], by simp [upd, s6], by simp [upd, x6], by simp [upd, s19], by rw [hnx]; simp [upd, Grows]⟩, by simp [upd, s9], by simp [upd, x9], by simp [upd, t21], by simp [upd, t20]⟩
          · have hb2 : (acc.length + 1) * 24 ≤ 140737488355328 := by omega
            rw [List.length_map] at hrw
            repeat (first
              | (refine Tri.seq fun K hK => ?_)
              | (refine Tri.region ?_; simp [upd, hn, s3, x3, s6, x6, s19, s9, x9, t21, t20, h28, h27, hj, hj1, g7, hrw, hb2, hE])
              | (refine Tri.draw (by kernel_rfl) (by decide +kernel) ?_; simp [upd, hn, s3, x3, s6, x6, s19, s9, x9, t21, t20, h28, h27, hj, hj1, g7, hrw, hb2, hE])
              | (refine Tri.draw2 [] [0, 1, 2, 3, 4, 5, 6, 7, 8, 9, 10, 11, 12, 13] [] [] (by kernel_rfl) (by kernel_rfl) (by decide) (by rfl) (by decide +kernel) ?_; simp [upd, hn, s3, x3, s6, x6, s19, s9, x9, t21, t20, h28, h27, hj, hj1, g7, hrw, hb2, hE])
              | (refine Tri.cond_true ?_ ?_; (focus simp [upd, hn, s3, x3, s6, x6, s19, s9, x9, t21, t20, h28, h27, hj, hj1, g7, hrw, hb2, hE]; done))
              | (refine Tri.cond_false ?_ ?_; (focus simp [upd, hn, s3, x3, s6, x6, s19, s9, x9, t21, t20, h28, h27, hj, hj1, g7, hrw, hb2, hE]; done))
              | (refine Tri.skip ?_; simp only [thenS, blockS])
              | (refine Tri.block_seq ?_)
              | (refine Tri.block_region ?_)
              | (refine Tri.block_cond ?_)
              | (refine CallK.pure hA (⟨.refl _, .refl _, .nil _ _ _ _, trivial⟩) ?_; simp [upd, hn, s3, x3, s6, x6, s19, s9, x9, t21, t20, h28, h27, hj, hj1, g7, hrw, hb2, hE])
              | (refine Tri.exit ?_; simp [upd, hn, s3, x3, s6, x6, s19, s9, x9, t21, t20, h28, h27, hj, hj1, g7, hrw, hb2, hE]; first | (rename ∀ st, Tri _ _ _ st _ → _ => hK; first | (apply hK; clear hK) | (clear hK; rename ∀ st, Tri _ _ _ st _ → _ => hK; first | (apply hK; clear hK) | (clear hK; rename ∀ st, Tri _ _ _ st _ → _ => hK; first | (apply hK; clear hK) | (clear hK; rename ∀ st, Tri _ _ _ st _ → _ => hK; first | (apply hK; clear hK) | (clear hK; rename ∀ st, Tri _ _ _ st _ → _ => hK; first | (apply hK; clear hK) | (clear hK; rename ∀ st, Tri _ _ _ st _ → _ => hK; apply hK; clear hK)))))) | skip)
              | (intro β)
              | (rename ∀ st, Tri _ _ _ st _ → _ => hK; apply hK; clear hK))
            exact ⟨b3, bm, b9, ⟨rfl, by simp [upd, s3], by simp [upd, x3], by simp [upd, s6], by simp [upd, x6], by simp [upd, s19], by rw [hnx]; simp [upd, Grows]⟩, by simp [upd, s9], by simp [upd, x9], by simp [upd, t21], by simp [upd, t20]⟩
      · have hA := arrival_at l[k] j r hf (by omega) (by omega) false
        cases hb : (arrI l[k] j (slotsOf l[k].id j r.dels)).2
        case true =>
          have h0 : late1 l[k] r.dels j = [] := by rw [late1, if_pos hb]
          rw [h0, List.append_nil] at hnx
          rw [hb] at hA
          repeat (first
            | (refine Tri.seq fun K hK => ?_)
            | (refine Tri.region ?_; simp [upd, hn, s3, x3, s6, x6, s19, s9, x9, t21, t20, h28, h27, hj, hj1, hE, hi, he])
            | (refine Tri.draw (by kernel_rfl) (by decide +kernel) ?_; simp [upd, hn, s3, x3, s6, x6, s19, s9, x9, t21, t20, h28, h27, hj, hj1, hE, hi, he])
            | (refine Tri.draw2 [] [0, 1, 2, 3, 4, 5, 6, 7, 8, 9, 10, 11, 12, 13] [] [] (by kernel_rfl) (by kernel_rfl) (by decide) (by rfl) (by decide +kernel) ?_; simp [upd, hn, s3, x3, s6, x6, s19, s9, x9, t21, t20, h28, h27, hj, hj1, hE, hi, he])
            | (refine Tri.cond_true ?_ ?_; (focus simp [upd, hn, s3, x3, s6, x6, s19, s9, x9, t21, t20, h28, h27, hj, hj1, hE, hi, he]; done))
            | (refine Tri.cond_false ?_ ?_; (focus simp [upd, hn, s3, x3, s6, x6, s19, s9, x9, t21, t20, h28, h27, hj, hj1, hE, hi, he]; done))
            | (refine Tri.skip ?_; simp only [thenS, blockS])
            | (refine Tri.block_seq ?_)
            | (refine Tri.block_region ?_)
            | (refine Tri.block_cond ?_)
            | (refine CallK.pure hA (Wks.refl _) ?_; simp [upd, hn, s3, x3, s6, x6, s19, s9, x9, t21, t20, h28, h27, hj, hj1, hE, hi, he])
            | (refine Tri.exit ?_; simp [upd, hn, s3, x3, s6, x6, s19, s9, x9, t21, t20, h28, h27, hj, hj1, hE, hi, he]; first | (rename ∀ st, Tri _ _ _ st _ → _ => hK; first | (apply hK; clear hK) | (clear hK; rename ∀ st, Tri _ _ _ st _ → _ => hK; first | (apply hK; clear hK) | (clear hK; rename ∀ st, Tri _ _ _ st _ → _ => hK; first | (apply hK; clear hK) | (clear hK; rename ∀ st, Tri _ _ _ st _ → _ => hK; first | (apply hK; clear hK) | (clear hK; rename ∀ st, Tri _ _ _ st _ → _ => hK; first | (apply hK; clear hK) | (clear hK; rename ∀ st, Tri _ _ _ st _ → _ => hK; apply hK; clear hK)))))) | skip)
            | (intro β)
            | (rename ∀ st, Tri _ _ _ st _ → _ => hK; apply hK; clear hK))
          refine ⟨⟨b3, bm, b9, ⟨rfl, by simp [upd, s3], by simp [upd, x3], by simp [upd, s6], by simp [upd, x6], by simp [upd, s19], by rw [hnx]; simpa [upd, Grows] using g7⟩, by simp [upd, s9], by simp [upd, x9], by simp [upd, t21], by simp [upd, t20]⟩, ?_⟩
          simp [upd, h28, h27]
        case false =>
          have h0 : late1 l[k] r.dels j = [⟨l[k].id, j, (arrI l[k] j (slotsOf l[k].id j r.dels)).1⟩] := by rw [late1, if_neg (by simp [hb])]
          rw [h0] at hnx
          rw [hb] at hA
          generalize (arrI l[k] j (slotsOf l[k].id j r.dels)).1 = s0 at *
          rcases g7 with ⟨hnil, n0, own, g7⟩ | ⟨hne, b, g7, hrw⟩
          · have hnil' : acc = [] := by simpa using hnil
            subst hnil'
            repeat (first
              | (refine Tri.seq fun K hK => ?_)
              | (refine Tri.region ?_; simp [upd, hn, s3, x3, s6, x6, s19, s9, x9, t21, t20, h28, h27, hj, hj1, g7, hE, hi, he])
              | (refine Tri.draw (by kernel_rfl) (by decide +kernel) ?_; simp [upd, hn, s3, x3, s6, x6, s19, s9, x9, t21, t20, h28, h27, hj, hj1, g7, hE, hi, he])
              | (refine Tri.draw2 [] [0, 1, 2, 3, 4, 5, 6, 7, 8, 9, 10, 11, 12, 13] [] [] (by kernel_rfl) (by kernel_rfl) (by decide) (by rfl) (by decide +kernel) ?_; simp [upd, hn, s3, x3, s6, x6, s19, s9, x9, t21, t20, h28, h27, hj, hj1, g7, hE, hi, he])
              | (refine Tri.cond_true ?_ ?_; (focus simp [upd, hn, s3, x3, s6, x6, s19, s9, x9, t21, t20, h28, h27, hj, hj1, g7, hE, hi, he]; done))
              | (refine Tri.cond_false ?_ ?_; (focus simp [upd, hn, s3, x3, s6, x6, s19, s9, x9, t21, t20, h28, h27, hj, hj1, g7, hE, hi, he]; done))
              | (refine Tri.skip ?_; simp only [thenS, blockS])
              | (refine Tri.block_seq ?_)
              | (refine Tri.block_region ?_)
              | (refine Tri.block_cond ?_)
              | (refine CallK.pure hA (Wks.refl _) ?_; simp [upd, hn, s3, x3, s6, x6, s19, s9, x9, t21, t20, h28, h27, hj, hj1, g7, hE, hi, he])
              | (refine Tri.exit ?_; simp [upd, hn, s3, x3, s6, x6, s19, s9, x9, t21, t20, h28, h27, hj, hj1, g7, hE, hi, he]; first | (rename ∀ st, Tri _ _ _ st _ → _ => hK; first | (apply hK; clear hK) | (clear hK; rename ∀ st, Tri _ _ _ st _ → _ => hK; first | (apply hK; clear hK) | (clear hK; rename ∀ st, Tri _ _ _ st _ → _ => hK; first | (apply hK; clear hK) | (clear hK; rename ∀ st, Tri _ _ _ st _ → _ => hK; first | (apply hK; clear hK) | (clear hK; rename ∀ st, Tri _ _ _ st _ → _ => hK; first | (apply hK; clear hK) | (clear hK; rename ∀ st, Tri _ _ _ st _ → _ => hK; apply hK; clear hK)))))) | skip)
              | (intro β)
              | (rename ∀ st, Tri _ _ _ st _ → _ => hK; apply hK; clear hK))
            exact ⟨b3, bm, b9, ⟨rfl, by simp [upd, s3], by simp [upd, x3], by simp [upd, s6], by simp [upd, x6], by simp [upd, s19], by rw [hnx]; simp [upd, Grows]⟩, by simp [upd, s9], by simp [upd, x9], by simp [upd, t21], by simp [upd, t20]⟩
          · have hb2 : (acc.length + 1) * 24 ≤ 140737488355328 := by omega
            rw [List.length_map] at hrw
            repeat (first
              | (refine Tri.seq fun K hK => ?_)
              | (refine Tri.region ?_; simp [upd, hn, s3, x3, s6, x6, s19, s9, x9, t21, t20, h28, h27, hj, hj1, g7, hrw, hb2, hE, hi, he])
              | (refine Tri.draw (by kernel_rfl) (by decide +kernel) ?_; simp [upd, hn, s3, x3, s6, x6, s19, s9, x9, t21, t20, h28, h27, hj, hj1, g7, hrw, hb2, hE, hi, he])
              | (refine Tri.draw2 [] [0, 1, 2, 3, 4, 5, 6, 7, 8, 9, 10, 11, 12, 13] [] [] (by kernel_rfl) (by kernel_rfl) (by decide) (by rfl) (by decide +kernel) ?_; simp [upd, hn, s3, x3, s6, x6, s19, s9, x9, t21, t20, h28, h27, hj, hj1, g7, hrw, hb2, hE, hi, he])
              | (refine Tri.cond_true ?_ ?_; (focus simp [upd, hn, s3, x3, s6, x6, s19, s9, x9, t21, t20, h28, h27, hj, hj1, g7, hrw, hb2, hE, hi, he]; done))
              | (refine Tri.cond_false ?_ ?_; (focus simp [upd, hn, s3, x3, s6, x6, s19, s9, x9, t21, t20, h28, h27, hj, hj1, g7, hrw, hb2, hE, hi, he]; done))
              | (refine Tri.skip ?_; simp only [thenS, blockS])
              | (refine Tri.block_seq ?_)
              | (refine Tri.block_region ?_)
              | (refine Tri.block_cond ?_)
              | (refine CallK.pure hA (Wks.refl _) ?_; simp [upd, hn, s3, x3, s6, x6, s19, s9, x9, t21, t20, h28, h27, hj, hj1, g7, hrw, hb2, hE, hi, he])
              | (refine Tri.exit ?_; simp [upd, hn, s3, x3, s6, x6, s19, s9, x9, t21, t20, h28, h27, hj, hj1, g7, hrw, hb2, hE, hi, he]; first | (rename ∀ st, Tri _ _ _ st _ → _ => hK; first | (apply hK; clear hK) | (clear hK; rename ∀ st, Tri _ _ _ st _ → _ => hK; first | (apply hK; clear hK) | (clear hK; rename ∀ st, Tri _ _ _ st _ → _ => hK; first | (apply hK; clear hK) | (clear hK; rename ∀ st, Tri _ _ _ st _ → _ => hK; first | (apply hK; clear hK) | (clear hK; rename ∀ st, Tri _ _ _ st _ → _ => hK; first | (apply hK; clear hK) | (clear hK; rename ∀ st, Tri _ _ _ st _ → _ => hK; apply hK; clear hK)))))) | skip)
              | (intro β)
              | (rename ∀ st, Tri _ _ _ st _ → _ => hK; apply hK; clear hK))
            exact ⟨b3, bm, b9, ⟨rfl, by simp [upd, s3], by simp [upd, x3], by simp [upd, s6], by simp [upd, x6], by simp [upd, s19], by rw [hnx]; simp [upd, Grows]⟩, by simp [upd, s9], by simp [upd, x9], by simp [upd, t21], by simp [upd, t20]⟩
    · rintro st ⟨b3, bm, b9, ⟨hn', s3, x3, s6, x6, s19, g7⟩, s9, x9, t21, t20⟩ hn
      rw [← htk] at g7
      exact ⟨⟨b3, bm, hn', s3, x3, s6, x6, s19, g7⟩, hn, t21, t20⟩
  · rintro st ⟨b3, bm, ⟨-, s3, x3, s6, x6, s19, g7⟩⟩ hn
    rw [List.take_length] at g7
    rename ∀ st, Tri _ _ _ st _ → _ => hK
    apply hK
    have hw := g7.wk
    change Wk _ (.c (.sl ((lates l r).map latC).isEmpty 3 none ((lates l r).map latC))) at hw
    repeat (first
      | (refine Tri.seq fun K hK => ?_)
      | (refine Tri.region ?_; simp [upd, hn])
      | (refine Tri.draw (by kernel_rfl) (by decide +kernel) ?_; simp [upd, hn])
      | (refine Tri.cond_true ?_ ?_; (focus simp [upd, hn]; done))
      | (refine Tri.cond_false ?_ ?_; (focus simp [upd, hn]; done))
      | (refine Tri.skip ?_; simp only [thenS, blockS])
      | (refine Tri.block_seq ?_)
      | (refine Tri.block_region ?_)
      | (refine Tri.block_cond ?_)
      | (refine Tri.exit ?_; simp [upd, hn]; first | (rename ∀ st, Tri _ _ _ st _ → _ => hK; first | (apply hK; clear hK) | (clear hK; rename ∀ st, Tri _ _ _ st _ → _ => hK; first | (apply hK; clear hK) | (clear hK; rename ∀ st, Tri _ _ _ st _ → _ => hK; first | (apply hK; clear hK) | (clear hK; rename ∀ st, Tri _ _ _ st _ → _ => hK; first | (apply hK; clear hK) | (clear hK; rename ∀ st, Tri _ _ _ st _ → _ => hK; first | (apply hK; clear hK) | (clear hK; rename ∀ st, Tri _ _ _ st _ → _ => hK; apply hK; clear hK)))))) | skip)
      | (intro β)
      | (rename ∀ st, Tri _ _ _ st _ → _ => hK; apply hK; clear hK))
    refine Tri.ret ⟨_, rfl, ?_⟩
    simp [upd]
    refine .tup2 ?_ (.refl _)
    simpa using hw
end Go.Proofs.Ytngbpmiikpjiaaa
end
