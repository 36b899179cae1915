/- For every string: RecordDecodes answers true, and its argument reads afterwards as before; no condition. -/
import Derived.Test.YtcohdlochpjnjaaB4
import Derived.Test.YtcohdlochpjnjaaRows
import Derived.ShutString
set_option linter.all false
section
open Go Go.Vm
namespace Go.Proofs.Ytcohdlochpjnjaa
set_option maxRecDepth 100000
set_option maxHeartbeats 4000000
set_option linter.unusedSimpArgs false
theorem and_same {K : St → Prop} {s t : St} (h : t = s) (hk : K s) : K s ∧ K t := ⟨hk, h ▸ hk⟩
theorem orI_cmp_ne {x y : Int} (l : List Int) (h : (x == y) = false) : decide (orI (cmpI x y :: l) < 0) = decide (x < y) := by
  have := orI_cmp x y l
  simp only [beq_eq_false_iff_ne, ne_eq] at h
  rw [decide_eq_decide, this]
  omega
theorem orI_cmp_eq {x y : Int} (l : List Int) (h : (x == y) = true) : orI (cmpI x y :: l) = orI l := by
  simp only [beq_iff_eq] at h
  rw [orI, if_pos ((cmpI_eq x y).2 h)]
attribute [local irreducible] Tri Does DoesB Rounds check sameB
def inB (n lo hi : Int) : Bool := decide (lo ≤ n) && decide (n ≤ hi)
theorem in_does (n lo hi : Int) : Does Try.prog 48 [.c (.int .i64 n), .c (.int .i64 lo), .c (.int .i64 hi)] (.c (.bool (inB n lo hi))) := by
  refine Does.of_body Try.func48 rfl (by kernel_rfl) rfl rfl (by simp) ?_
  intro E
  unfold inB
  by_cases h1 : lo ≤ n
  · repeat (first
      | (refine Tri.seq fun K hK => ?_)
      | (refine Tri.region ?_; simp [upd, h1])
      | (refine Tri.draw (by kernel_rfl) (by decide +kernel) ?_; simp [upd, h1])
      | (refine Tri.cond_true ?_ ?_; (focus simp [upd, h1]; done))
      | (refine Tri.cond_false ?_ ?_; (focus simp [upd, h1]; done))
      | (refine Tri.skip ?_; simp only [thenS, blockS])
      | (refine Tri.block_seq ?_)
      | (refine Tri.block_region ?_)
      | (refine Tri.block_cond ?_)
      | (refine Tri.exit ?_; simp [upd, h1]; first | (rename ∀ st, Tri _ _ _ st _ → _ => hK; first | (apply hK; clear hK) | (clear hK; rename ∀ st, Tri _ _ _ st _ → _ => hK; first | (apply hK; clear hK) | (clear hK; rename ∀ st, Tri _ _ _ st _ → _ => hK; first | (apply hK; clear hK) | (clear hK; rename ∀ st, Tri _ _ _ st _ → _ => hK; first | (apply hK; clear hK) | (clear hK; rename ∀ st, Tri _ _ _ st _ → _ => hK; first | (apply hK; clear hK) | (clear hK; rename ∀ st, Tri _ _ _ st _ → _ => hK; apply hK; clear hK)))))) | skip)
      | (intro β)
      | (rename ∀ st, Tri _ _ _ st _ → _ => hK; apply hK; clear hK))
    refine Tri.ret ⟨_, rfl, ?_⟩
    simp [upd, h1]
    exact Wk.refl _
  · repeat (first
      | (refine Tri.seq fun K hK => ?_)
      | (refine Tri.region ?_; simp [upd, h1])
      | (refine Tri.draw (by kernel_rfl) (by decide +kernel) ?_; simp [upd, h1])
      | (refine Tri.cond_true ?_ ?_; (focus simp [upd, h1]; done))
      | (refine Tri.cond_false ?_ ?_; (focus simp [upd, h1]; done))
      | (refine Tri.skip ?_; simp only [thenS, blockS])
      | (refine Tri.block_seq ?_)
      | (refine Tri.block_region ?_)
      | (refine Tri.block_cond ?_)
      | (refine Tri.exit ?_; simp [upd, h1]; first | (rename ∀ st, Tri _ _ _ st _ → _ => hK; first | (apply hK; clear hK) | (clear hK; rename ∀ st, Tri _ _ _ st _ → _ => hK; first | (apply hK; clear hK) | (clear hK; rename ∀ st, Tri _ _ _ st _ → _ => hK; first | (apply hK; clear hK) | (clear hK; rename ∀ st, Tri _ _ _ st _ → _ => hK; first | (apply hK; clear hK) | (clear hK; rename ∀ st, Tri _ _ _ st _ → _ => hK; first | (apply hK; clear hK) | (clear hK; rename ∀ st, Tri _ _ _ st _ → _ => hK; apply hK; clear hK)))))) | skip)
      | (intro β)
      | (rename ∀ st, Tri _ _ _ st _ → _ => hK; apply hK; clear hK))
    refine Tri.ret ⟨_, rfl, ?_⟩
    simp [upd, h1]
    exact Wk.refl _
def keysC (a : Att) : List C := [.int .i64 a.slot, .int .i64 a.cslot, .int .i64 a.off, .int .i64 a.frm, .int .i64 a.to, .int .i64 a.flow]
theorem keys_does (a : Att) : Does Try.prog 64 [.agg (attC a)] (.agg (keysC a)) := by
  refine Does.of_body Try.func64 rfl (by kernel_rfl) rfl rfl (by simp) ?_
  intro E
  repeat (first
    | (refine Tri.seq fun K hK => ?_)
    | (refine Tri.region ?_; simp [upd])
    | (refine Tri.draw (by kernel_rfl) (by decide +kernel) ?_; simp [upd])
    | (refine Tri.cond_true ?_ ?_; (focus simp [upd]; done))
    | (refine Tri.cond_false ?_ ?_; (focus simp [upd]; done))
    | (refine Tri.skip ?_; simp only [thenS, blockS])
    | (refine Tri.block_seq ?_)
    | (refine Tri.block_region ?_)
    | (refine Tri.block_cond ?_)
    | (refine Tri.exit ?_; simp [upd]; first | (rename ∀ st, Tri _ _ _ st _ → _ => hK; first | (apply hK; clear hK) | (clear hK; rename ∀ st, Tri _ _ _ st _ → _ => hK; first | (apply hK; clear hK) | (clear hK; rename ∀ st, Tri _ _ _ st _ → _ => hK; first | (apply hK; clear hK) | (clear hK; rename ∀ st, Tri _ _ _ st _ → _ => hK; first | (apply hK; clear hK) | (clear hK; rename ∀ st, Tri _ _ _ st _ → _ => hK; first | (apply hK; clear hK) | (clear hK; rename ∀ st, Tri _ _ _ st _ → _ => hK; apply hK; clear hK)))))) | skip)
    | (intro β)
    | (rename ∀ st, Tri _ _ _ st _ → _ => hK; apply hK; clear hK))
  exact Tri.ret ⟨.agg (keysC a), by simp [upd, keysC], Wk.refl _⟩
theorem less_does (a b : Att) : Does Try.prog 50 [.agg (attC a), .agg (attC b)] (.c (.bool (decide (cmpA a b < 0)))) := by
  refine Does.of_body Try.func50 rfl (by kernel_rfl) rfl rfl (by simp) ?_
  intro E
  have k1 := keys_does a
  have k2 := keys_does b
  unfold cmpA
  simp only [keysC] at k1 k2
  cases e0 : (a.slot == b.slot)
  case false =>
    rw [orI_cmp_ne _ e0]
    repeat (first
      | (refine Tri.seq fun K hK => ?_)
      | (refine Tri.region ?_; simp [upd, e0, bne, orI])
      | (refine Tri.draw2 [5, 6] [0, 1, 2, 3] [4, 5, 6, 7] [] (by kernel_rfl) (by kernel_rfl) (by decide) (by rfl) (by decide +kernel) ?_; simp [upd, e0, bne, orI])
      | (refine Tri.draw (by kernel_rfl) (by decide +kernel) ?_; simp [upd, e0, bne, orI])
      | (refine Tri.cond_true ?_ ?_; (focus simp [upd, e0, bne, orI]; done))
      | (refine Tri.cond_false ?_ ?_; (focus simp [upd, e0, bne, orI]; done))
      | (refine Tri.skip ?_; simp only [thenS, blockS])
      | (refine Tri.block_seq ?_)
      | (refine Tri.block_region ?_)
      | (refine Tri.block_cond ?_)
      | ((with_reducible refine CallK.pure (k1) (Wks.refl _) ?_); simp [upd, e0, bne, orI])
      | ((with_reducible refine CallK.pure (k2) (Wks.refl _) ?_); simp [upd, e0, bne, orI])
      | (refine Tri.block_loop 8 ?_)
      | (refine Rounds.step ?_)
      | (refine Tri.exit ?_; simp [upd, e0, bne, orI]; first | (rename ∀ st, Tri _ _ _ st _ → _ => hK; first | (apply hK; clear hK) | (clear hK; rename ∀ st, Tri _ _ _ st _ → _ => hK; first | (apply hK; clear hK) | (clear hK; rename ∀ st, Tri _ _ _ st _ → _ => hK; first | (apply hK; clear hK) | (clear hK; rename ∀ st, Tri _ _ _ st _ → _ => hK; first | (apply hK; clear hK) | (clear hK; rename ∀ st, Tri _ _ _ st _ → _ => hK; first | (apply hK; clear hK) | (clear hK; rename ∀ st, Tri _ _ _ st _ → _ => hK; apply hK; clear hK)))))) | skip)
      | (intro β)
      | (rename ∀ st, Tri _ _ _ st _ → _ => hK; apply hK; clear hK))
    refine Tri.ret ⟨_, rfl, ?_⟩
    simp [upd]
    exact Wk.refl _
  rw [orI_cmp_eq _ e0]
  cases e1 : (a.cslot == b.cslot)
  case false =>
    rw [orI_cmp_ne _ e1]
    repeat (first
      | (refine Tri.seq fun K hK => ?_)
      | (refine Tri.region ?_; simp [upd, e0, e1, bne, orI])
      | (refine Tri.draw2 [5, 6] [0, 1, 2, 3] [4, 5, 6, 7] [] (by kernel_rfl) (by kernel_rfl) (by decide) (by rfl) (by decide +kernel) ?_; simp [upd, e0, e1, bne, orI])
      | (refine Tri.draw (by kernel_rfl) (by decide +kernel) ?_; simp [upd, e0, e1, bne, orI])
      | (refine Tri.cond_true ?_ ?_; (focus simp [upd, e0, e1, bne, orI]; done))
      | (refine Tri.cond_false ?_ ?_; (focus simp [upd, e0, e1, bne, orI]; done))
      | (refine Tri.skip ?_; simp only [thenS, blockS])
      | (refine Tri.block_seq ?_)
      | (refine Tri.block_region ?_)
      | (refine Tri.block_cond ?_)
      | ((with_reducible refine CallK.pure (k1) (Wks.refl _) ?_); simp [upd, e0, e1, bne, orI])
      | ((with_reducible refine CallK.pure (k2) (Wks.refl _) ?_); simp [upd, e0, e1, bne, orI])
      | (refine Tri.block_loop 8 ?_)
      | (refine Rounds.step ?_)
      | (refine Tri.exit ?_; simp [upd, e0, e1, bne, orI]; first | (rename ∀ st, Tri _ _ _ st _ → _ => hK; first | (apply hK; clear hK) | (clear hK; rename ∀ st, Tri _ _ _ st _ → _ => hK; first | (apply hK; clear hK) | (clear hK; rename ∀ st, Tri _ _ _ st _ → _ => hK; first | (apply hK; clear hK) | (clear hK; rename ∀ st, Tri _ _ _ st _ → _ => hK; first | (apply hK; clear hK) | (clear hK; rename ∀ st, Tri _ _ _ st _ → _ => hK; first | (apply hK; clear hK) | (clear hK; rename ∀ st, Tri _ _ _ st _ → _ => hK; apply hK; clear hK)))))) | skip)
      | (intro β)
      | (rename ∀ st, Tri _ _ _ st _ → _ => hK; apply hK; clear hK))
    refine Tri.ret ⟨_, rfl, ?_⟩
    simp [upd]
    exact Wk.refl _
  rw [orI_cmp_eq _ e1]
  cases e2 : (a.off == b.off)
  case false =>
    rw [orI_cmp_ne _ e2]
    repeat (first
      | (refine Tri.seq fun K hK => ?_)
      | (refine Tri.region ?_; simp [upd, e0, e1, e2, bne, orI])
      | (refine Tri.draw2 [5, 6] [0, 1, 2, 3] [4, 5, 6, 7] [] (by kernel_rfl) (by kernel_rfl) (by decide) (by rfl) (by decide +kernel) ?_; simp [upd, e0, e1, e2, bne, orI])
      | (refine Tri.draw (by kernel_rfl) (by decide +kernel) ?_; simp [upd, e0, e1, e2, bne, orI])
      | (refine Tri.cond_true ?_ ?_; (focus simp [upd, e0, e1, e2, bne, orI]; done))
      | (refine Tri.cond_false ?_ ?_; (focus simp [upd, e0, e1, e2, bne, orI]; done))
      | (refine Tri.skip ?_; simp only [thenS, blockS])
      | (refine Tri.block_seq ?_)
      | (refine Tri.block_region ?_)
      | (refine Tri.block_cond ?_)
      | ((with_reducible refine CallK.pure (k1) (Wks.refl _) ?_); simp [upd, e0, e1, e2, bne, orI])
      | ((with_reducible refine CallK.pure (k2) (Wks.refl _) ?_); simp [upd, e0, e1, e2, bne, orI])
      | (refine Tri.block_loop 8 ?_)
      | (refine Rounds.step ?_)
      | (refine Tri.exit ?_; simp [upd, e0, e1, e2, bne, orI]; first | (rename ∀ st, Tri _ _ _ st _ → _ => hK; first | (apply hK; clear hK) | (clear hK; rename ∀ st, Tri _ _ _ st _ → _ => hK; first | (apply hK; clear hK) | (clear hK; rename ∀ st, Tri _ _ _ st _ → _ => hK; first | (apply hK; clear hK) | (clear hK; rename ∀ st, Tri _ _ _ st _ → _ => hK; first | (apply hK; clear hK) | (clear hK; rename ∀ st, Tri _ _ _ st _ → _ => hK; first | (apply hK; clear hK) | (clear hK; rename ∀ st, Tri _ _ _ st _ → _ => hK; apply hK; clear hK)))))) | skip)
      | (intro β)
      | (rename ∀ st, Tri _ _ _ st _ → _ => hK; apply hK; clear hK))
    refine Tri.ret ⟨_, rfl, ?_⟩
    simp [upd]
    exact Wk.refl _
  rw [orI_cmp_eq _ e2]
  cases e3 : (a.frm == b.frm)
  case false =>
    rw [orI_cmp_ne _ e3]
    repeat (first
      | (refine Tri.seq fun K hK => ?_)
      | (refine Tri.region ?_; simp [upd, e0, e1, e2, e3, bne, orI])
      | (refine Tri.draw2 [5, 6] [0, 1, 2, 3] [4, 5, 6, 7] [] (by kernel_rfl) (by kernel_rfl) (by decide) (by rfl) (by decide +kernel) ?_; simp [upd, e0, e1, e2, e3, bne, orI])
      | (refine Tri.draw (by kernel_rfl) (by decide +kernel) ?_; simp [upd, e0, e1, e2, e3, bne, orI])
      | (refine Tri.cond_true ?_ ?_; (focus simp [upd, e0, e1, e2, e3, bne, orI]; done))
      | (refine Tri.cond_false ?_ ?_; (focus simp [upd, e0, e1, e2, e3, bne, orI]; done))
      | (refine Tri.skip ?_; simp only [thenS, blockS])
      | (refine Tri.block_seq ?_)
      | (refine Tri.block_region ?_)
      | (refine Tri.block_cond ?_)
      | ((with_reducible refine CallK.pure (k1) (Wks.refl _) ?_); simp [upd, e0, e1, e2, e3, bne, orI])
      | ((with_reducible refine CallK.pure (k2) (Wks.refl _) ?_); simp [upd, e0, e1, e2, e3, bne, orI])
      | (refine Tri.block_loop 8 ?_)
      | (refine Rounds.step ?_)
      | (refine Tri.exit ?_; simp [upd, e0, e1, e2, e3, bne, orI]; first | (rename ∀ st, Tri _ _ _ st _ → _ => hK; first | (apply hK; clear hK) | (clear hK; rename ∀ st, Tri _ _ _ st _ → _ => hK; first | (apply hK; clear hK) | (clear hK; rename ∀ st, Tri _ _ _ st _ → _ => hK; first | (apply hK; clear hK) | (clear hK; rename ∀ st, Tri _ _ _ st _ → _ => hK; first | (apply hK; clear hK) | (clear hK; rename ∀ st, Tri _ _ _ st _ → _ => hK; first | (apply hK; clear hK) | (clear hK; rename ∀ st, Tri _ _ _ st _ → _ => hK; apply hK; clear hK)))))) | skip)
      | (intro β)
      | (rename ∀ st, Tri _ _ _ st _ → _ => hK; apply hK; clear hK))
    refine Tri.ret ⟨_, rfl, ?_⟩
    simp [upd]
    exact Wk.refl _
  rw [orI_cmp_eq _ e3]
  cases e4 : (a.to == b.to)
  case false =>
    rw [orI_cmp_ne _ e4]
    repeat (first
      | (refine Tri.seq fun K hK => ?_)
      | (refine Tri.region ?_; simp [upd, e0, e1, e2, e3, e4, bne, orI])
      | (refine Tri.draw2 [5, 6] [0, 1, 2, 3] [4, 5, 6, 7] [] (by kernel_rfl) (by kernel_rfl) (by decide) (by rfl) (by decide +kernel) ?_; simp [upd, e0, e1, e2, e3, e4, bne, orI])
      | (refine Tri.draw (by kernel_rfl) (by decide +kernel) ?_; simp [upd, e0, e1, e2, e3, e4, bne, orI])
      | (refine Tri.cond_true ?_ ?_; (focus simp [upd, e0, e1, e2, e3, e4, bne, orI]; done))
      | (refine Tri.cond_false ?_ ?_; (focus simp [upd, e0, e1, e2, e3, e4, bne, orI]; done))
      | (refine Tri.skip ?_; simp only [thenS, blockS])
      | (refine Tri.block_seq ?_)
      | (refine Tri.block_region ?_)
      | (refine Tri.block_cond ?_)
      | ((with_reducible refine CallK.pure (k1) (Wks.refl _) ?_); simp [upd, e0, e1, e2, e3, e4, bne, orI])
      | ((with_reducible refine CallK.pure (k2) (Wks.refl _) ?_); simp [upd, e0, e1, e2, e3, e4, bne, orI])
      | (refine Tri.block_loop 8 ?_)
      | (refine Rounds.step ?_)
      | (refine Tri.exit ?_; simp [upd, e0, e1, e2, e3, e4, bne, orI]; first | (rename ∀ st, Tri _ _ _ st _ → _ => hK; first | (apply hK; clear hK) | (clear hK; rename ∀ st, Tri _ _ _ st _ → _ => hK; first | (apply hK; clear hK) | (clear hK; rename ∀ st, Tri _ _ _ st _ → _ => hK; first | (apply hK; clear hK) | (clear hK; rename ∀ st, Tri _ _ _ st _ → _ => hK; first | (apply hK; clear hK) | (clear hK; rename ∀ st, Tri _ _ _ st _ → _ => hK; first | (apply hK; clear hK) | (clear hK; rename ∀ st, Tri _ _ _ st _ → _ => hK; apply hK; clear hK)))))) | skip)
      | (intro β)
      | (rename ∀ st, Tri _ _ _ st _ → _ => hK; apply hK; clear hK))
    refine Tri.ret ⟨_, rfl, ?_⟩
    simp [upd]
    exact Wk.refl _
  rw [orI_cmp_eq _ e4]
  cases e5 : (a.flow == b.flow)
  case false =>
    rw [orI_cmp_ne _ e5]
    repeat (first
      | (refine Tri.seq fun K hK => ?_)
      | (refine Tri.region ?_; simp [upd, e0, e1, e2, e3, e4, e5, bne, orI])
      | (refine Tri.draw2 [5, 6] [0, 1, 2, 3] [4, 5, 6, 7] [] (by kernel_rfl) (by kernel_rfl) (by decide) (by rfl) (by decide +kernel) ?_; simp [upd, e0, e1, e2, e3, e4, e5, bne, orI])
      | (refine Tri.draw (by kernel_rfl) (by decide +kernel) ?_; simp [upd, e0, e1, e2, e3, e4, e5, bne, orI])
      | (refine Tri.cond_true ?_ ?_; (focus simp [upd, e0, e1, e2, e3, e4, e5, bne, orI]; done))
      | (refine Tri.cond_false ?_ ?_; (focus simp [upd, e0, e1, e2, e3, e4, e5, bne, orI]; done))
      | (refine Tri.skip ?_; simp only [thenS, blockS])
      | (refine Tri.block_seq ?_)
      | (refine Tri.block_region ?_)
      | (refine Tri.block_cond ?_)
      | ((with_reducible refine CallK.pure (k1) (Wks.refl _) ?_); simp [upd, e0, e1, e2, e3, e4, e5, bne, orI])
      | ((with_reducible refine CallK.pure (k2) (Wks.refl _) ?_); simp [upd, e0, e1, e2, e3, e4, e5, bne, orI])
      | (refine Tri.block_loop 8 ?_)
      | (refine Rounds.step ?_)
      | (refine Tri.exit ?_; simp [upd, e0, e1, e2, e3, e4, e5, bne, orI]; first | (rename ∀ st, Tri _ _ _ st _ → _ => hK; first | (apply hK; clear hK) | (clear hK; rename ∀ st, Tri _ _ _ st _ → _ => hK; first | (apply hK; clear hK) | (clear hK; rename ∀ st, Tri _ _ _ st _ → _ => hK; first | (apply hK; clear hK) | (clear hK; rename ∀ st, Tri _ _ _ st _ → _ => hK; first | (apply hK; clear hK) | (clear hK; rename ∀ st, Tri _ _ _ st _ → _ => hK; first | (apply hK; clear hK) | (clear hK; rename ∀ st, Tri _ _ _ st _ → _ => hK; apply hK; clear hK)))))) | skip)
      | (intro β)
      | (rename ∀ st, Tri _ _ _ st _ → _ => hK; apply hK; clear hK))
    refine Tri.ret ⟨_, rfl, ?_⟩
    simp [upd]
    exact Wk.refl _
  rw [orI_cmp_eq _ e5]
  repeat (first
    | (refine Tri.seq fun K hK => ?_)
    | (refine Tri.region ?_; simp [upd, e0, e1, e2, e3, e4, e5, bne, orI])
    | (refine Tri.draw2 [5, 6] [0, 1, 2, 3] [4, 5, 6, 7] [] (by kernel_rfl) (by kernel_rfl) (by decide) (by rfl) (by decide +kernel) ?_; simp [upd, e0, e1, e2, e3, e4, e5, bne, orI])
    | (refine Tri.draw (by kernel_rfl) (by decide +kernel) ?_; simp [upd, e0, e1, e2, e3, e4, e5, bne, orI])
    | (refine Tri.cond_true ?_ ?_; (focus simp [upd, e0, e1, e2, e3, e4, e5, bne, orI]; done))
    | (refine Tri.cond_false ?_ ?_; (focus simp [upd, e0, e1, e2, e3, e4, e5, bne, orI]; done))
    | (refine Tri.skip ?_; simp only [thenS, blockS])
    | (refine Tri.block_seq ?_)
    | (refine Tri.block_region ?_)
    | (refine Tri.block_cond ?_)
    | ((with_reducible refine CallK.pure (k1) (Wks.refl _) ?_); simp [upd, e0, e1, e2, e3, e4, e5, bne, orI])
    | ((with_reducible refine CallK.pure (k2) (Wks.refl _) ?_); simp [upd, e0, e1, e2, e3, e4, e5, bne, orI])
    | (refine Tri.block_loop 8 ?_)
    | (refine Rounds.step ?_)
    | (refine Tri.exit ?_; simp [upd, e0, e1, e2, e3, e4, e5, bne, orI]; first | (rename ∀ st, Tri _ _ _ st _ → _ => hK; first | (apply hK; clear hK) | (clear hK; rename ∀ st, Tri _ _ _ st _ → _ => hK; first | (apply hK; clear hK) | (clear hK; rename ∀ st, Tri _ _ _ st _ → _ => hK; first | (apply hK; clear hK) | (clear hK; rename ∀ st, Tri _ _ _ st _ → _ => hK; first | (apply hK; clear hK) | (clear hK; rename ∀ st, Tri _ _ _ st _ → _ => hK; first | (apply hK; clear hK) | (clear hK; rename ∀ st, Tri _ _ _ st _ → _ => hK; apply hK; clear hK)))))) | skip)
    | (intro β)
    | (rename ∀ st, Tri _ _ _ st _ → _ => hK; apply hK; clear hK))
  refine Tri.ret ⟨_, rfl, ?_⟩
  simp [upd]
  exact Wk.refl _
end Go.Proofs.Ytcohdlochpjnjaa
end
section
open Go Go.Vm
namespace Go.Proofs.Ytcohdlochpjnjaa
set_option maxRecDepth 100000
set_option maxHeartbeats 4000000
set_option linter.unusedSimpArgs false
theorem inB_below (n hi e : Int) (h : hi + 1 = e) : inB n 0 hi = belowB n e := by
  unfold inB belowB
  rw [Bool.eq_iff_iff]
  simp only [Bool.and_eq_true, decide_eq_true_eq]
  omega
theorem in0_does (n hi e : Int) (h : hi + 1 = e) : Does Try.prog 48 [.c (.int .i64 n), .c (.int .i64 0), .c (.int .i64 hi)] (.c (.bool (belowB n e))) := inB_below n hi e h ▸ in_does n 0 hi
theorem in14_does (n : Int) : Does Try.prog 48 [.c (.int .i64 n), .c (.int .i64 1), .c (.int .i64 4)] (.c (.bool (decide (1 ≤ n) && decide (n ≤ 4)))) := in_does n 1 4
attribute [local irreducible] Tri Does DoesB Rounds check sameB inB
theorem attR_does (r : Rec) (a : Att) (h0 : 0 ≤ r.slots) (h1 : r.slots ≤ 4096) : Does Try.prog 49 [.agg (recC r), .agg (attC a)] (.c (.bool (attOk a r.slots))) := by
  refine Does.of_body Try.func49 rfl (by kernel_rfl) rfl rfl (by simp) ?_
  intro E
  have hw : IntKind.i64.wrap (r.slots - 1) = r.slots - 1 := wrap_i64 (by omega) (by omega)
  have i1 := in0_does a.slot (r.slots - 1) r.slots (by omega)
  have i2 := in0_does a.frame 1048575 1048576 (by omega)
  have i3 := in0_does a.cslot 511 512 (by omega)
  have i4 := in0_does a.off 15 16 (by omega)
  have i5 := in0_does a.frm 31 32 (by omega)
  have i6 := in0_does a.to 31 32 (by omega)
  have i7 := in0_does a.flow 255 256 (by omega)
  have i8 := in14_does a.out
  simp only [recC]
  unfold attOk
  cases h1 : belowB a.slot r.slots
  case false =>
    repeat (first
      | (refine Tri.seq fun K hK => ?_)
      | (refine Tri.region ?_; simp [upd, hw, h1])
      | (refine Tri.draw (by kernel_rfl) (by decide +kernel) ?_; simp [upd, hw, h1])
      | (refine Tri.cond_true ?_ ?_; (focus simp [upd, hw, h1]; done))
      | (refine Tri.cond_false ?_ ?_; (focus simp [upd, hw, h1]; done))
      | (refine Tri.skip ?_; simp only [thenS, blockS])
      | (refine Tri.block_seq ?_)
      | (refine Tri.block_region ?_)
      | (refine Tri.block_cond ?_)
      | ((with_reducible refine CallK.pure (i1) (Wks.refl _) ?_); simp [upd, hw, h1])
      | ((with_reducible refine CallK.pure (i2) (Wks.refl _) ?_); simp [upd, hw, h1])
      | ((with_reducible refine CallK.pure (i3) (Wks.refl _) ?_); simp [upd, hw, h1])
      | ((with_reducible refine CallK.pure (i4) (Wks.refl _) ?_); simp [upd, hw, h1])
      | ((with_reducible refine CallK.pure (i5) (Wks.refl _) ?_); simp [upd, hw, h1])
      | ((with_reducible refine CallK.pure (i6) (Wks.refl _) ?_); simp [upd, hw, h1])
      | ((with_reducible refine CallK.pure (i7) (Wks.refl _) ?_); simp [upd, hw, h1])
      | ((with_reducible refine CallK.pure (i8) (Wks.refl _) ?_); simp [upd, hw, h1])
      | (refine Tri.exit ?_; simp [upd, hw, h1]; first | (rename ∀ st, Tri _ _ _ st _ → _ => hK; first | (apply hK; clear hK) | (clear hK; rename ∀ st, Tri _ _ _ st _ → _ => hK; first | (apply hK; clear hK) | (clear hK; rename ∀ st, Tri _ _ _ st _ → _ => hK; first | (apply hK; clear hK) | (clear hK; rename ∀ st, Tri _ _ _ st _ → _ => hK; first | (apply hK; clear hK) | (clear hK; rename ∀ st, Tri _ _ _ st _ → _ => hK; first | (apply hK; clear hK) | (clear hK; rename ∀ st, Tri _ _ _ st _ → _ => hK; apply hK; clear hK)))))) | skip)
      | (intro β)
      | (rename ∀ st, Tri _ _ _ st _ → _ => hK; apply hK; clear hK))
    refine Tri.ret ⟨_, rfl, ?_⟩
    simp [upd]
    exact Wk.refl _
  cases h2 : belowB a.frame 1048576
  case false =>
    repeat (first
      | (refine Tri.seq fun K hK => ?_)
      | (refine Tri.region ?_; simp [upd, hw, h1, h2])
      | (refine Tri.draw (by kernel_rfl) (by decide +kernel) ?_; simp [upd, hw, h1, h2])
      | (refine Tri.cond_true ?_ ?_; (focus simp [upd, hw, h1, h2]; done))
      | (refine Tri.cond_false ?_ ?_; (focus simp [upd, hw, h1, h2]; done))
      | (refine Tri.skip ?_; simp only [thenS, blockS])
      | (refine Tri.block_seq ?_)
      | (refine Tri.block_region ?_)
      | (refine Tri.block_cond ?_)
      | ((with_reducible refine CallK.pure (i1) (Wks.refl _) ?_); simp [upd, hw, h1, h2])
      | ((with_reducible refine CallK.pure (i2) (Wks.refl _) ?_); simp [upd, hw, h1, h2])
      | ((with_reducible refine CallK.pure (i3) (Wks.refl _) ?_); simp [upd, hw, h1, h2])
      | ((with_reducible refine CallK.pure (i4) (Wks.refl _) ?_); simp [upd, hw, h1, h2])
      | ((with_reducible refine CallK.pure (i5) (Wks.refl _) ?_); simp [upd, hw, h1, h2])
      | ((with_reducible refine CallK.pure (i6) (Wks.refl _) ?_); simp [upd, hw, h1, h2])
      | ((with_reducible refine CallK.pure (i7) (Wks.refl _) ?_); simp [upd, hw, h1, h2])
      | ((with_reducible refine CallK.pure (i8) (Wks.refl _) ?_); simp [upd, hw, h1, h2])
      | (refine Tri.exit ?_; simp [upd, hw, h1, h2]; first | (rename ∀ st, Tri _ _ _ st _ → _ => hK; first | (apply hK; clear hK) | (clear hK; rename ∀ st, Tri _ _ _ st _ → _ => hK; first | (apply hK; clear hK) | (clear hK; rename ∀ st, Tri _ _ _ st _ → _ => hK; first | (apply hK; clear hK) | (clear hK; rename ∀ st, Tri _ _ _ st _ → _ => hK; first | (apply hK; clear hK) | (clear hK; rename ∀ st, Tri _ _ _ st _ → _ => hK; first | (apply hK; clear hK) | (clear hK; rename ∀ st, Tri _ _ _ st _ → _ => hK; apply hK; clear hK)))))) | skip)
      | (intro β)
      | (rename ∀ st, Tri _ _ _ st _ → _ => hK; apply hK; clear hK))
    refine Tri.ret ⟨_, rfl, ?_⟩
    simp [upd]
    exact Wk.refl _
  cases h3 : belowB a.cslot 512
  case false =>
    repeat (first
      | (refine Tri.seq fun K hK => ?_)
      | (refine Tri.region ?_; simp [upd, hw, h1, h2, h3])
      | (refine Tri.draw (by kernel_rfl) (by decide +kernel) ?_; simp [upd, hw, h1, h2, h3])
      | (refine Tri.cond_true ?_ ?_; (focus simp [upd, hw, h1, h2, h3]; done))
      | (refine Tri.cond_false ?_ ?_; (focus simp [upd, hw, h1, h2, h3]; done))
      | (refine Tri.skip ?_; simp only [thenS, blockS])
      | (refine Tri.block_seq ?_)
      | (refine Tri.block_region ?_)
      | (refine Tri.block_cond ?_)
      | ((with_reducible refine CallK.pure (i1) (Wks.refl _) ?_); simp [upd, hw, h1, h2, h3])
      | ((with_reducible refine CallK.pure (i2) (Wks.refl _) ?_); simp [upd, hw, h1, h2, h3])
      | ((with_reducible refine CallK.pure (i3) (Wks.refl _) ?_); simp [upd, hw, h1, h2, h3])
      | ((with_reducible refine CallK.pure (i4) (Wks.refl _) ?_); simp [upd, hw, h1, h2, h3])
      | ((with_reducible refine CallK.pure (i5) (Wks.refl _) ?_); simp [upd, hw, h1, h2, h3])
      | ((with_reducible refine CallK.pure (i6) (Wks.refl _) ?_); simp [upd, hw, h1, h2, h3])
      | ((with_reducible refine CallK.pure (i7) (Wks.refl _) ?_); simp [upd, hw, h1, h2, h3])
      | ((with_reducible refine CallK.pure (i8) (Wks.refl _) ?_); simp [upd, hw, h1, h2, h3])
      | (refine Tri.exit ?_; simp [upd, hw, h1, h2, h3]; first | (rename ∀ st, Tri _ _ _ st _ → _ => hK; first | (apply hK; clear hK) | (clear hK; rename ∀ st, Tri _ _ _ st _ → _ => hK; first | (apply hK; clear hK) | (clear hK; rename ∀ st, Tri _ _ _ st _ → _ => hK; first | (apply hK; clear hK) | (clear hK; rename ∀ st, Tri _ _ _ st _ → _ => hK; first | (apply hK; clear hK) | (clear hK; rename ∀ st, Tri _ _ _ st _ → _ => hK; first | (apply hK; clear hK) | (clear hK; rename ∀ st, Tri _ _ _ st _ → _ => hK; apply hK; clear hK)))))) | skip)
      | (intro β)
      | (rename ∀ st, Tri _ _ _ st _ → _ => hK; apply hK; clear hK))
    refine Tri.ret ⟨_, rfl, ?_⟩
    simp [upd]
    exact Wk.refl _
  cases h4 : belowB a.off 16
  case false =>
    repeat (first
      | (refine Tri.seq fun K hK => ?_)
      | (refine Tri.region ?_; simp [upd, hw, h1, h2, h3, h4])
      | (refine Tri.draw (by kernel_rfl) (by decide +kernel) ?_; simp [upd, hw, h1, h2, h3, h4])
      | (refine Tri.cond_true ?_ ?_; (focus simp [upd, hw, h1, h2, h3, h4]; done))
      | (refine Tri.cond_false ?_ ?_; (focus simp [upd, hw, h1, h2, h3, h4]; done))
      | (refine Tri.skip ?_; simp only [thenS, blockS])
      | (refine Tri.block_seq ?_)
      | (refine Tri.block_region ?_)
      | (refine Tri.block_cond ?_)
      | ((with_reducible refine CallK.pure (i1) (Wks.refl _) ?_); simp [upd, hw, h1, h2, h3, h4])
      | ((with_reducible refine CallK.pure (i2) (Wks.refl _) ?_); simp [upd, hw, h1, h2, h3, h4])
      | ((with_reducible refine CallK.pure (i3) (Wks.refl _) ?_); simp [upd, hw, h1, h2, h3, h4])
      | ((with_reducible refine CallK.pure (i4) (Wks.refl _) ?_); simp [upd, hw, h1, h2, h3, h4])
      | ((with_reducible refine CallK.pure (i5) (Wks.refl _) ?_); simp [upd, hw, h1, h2, h3, h4])
      | ((with_reducible refine CallK.pure (i6) (Wks.refl _) ?_); simp [upd, hw, h1, h2, h3, h4])
      | ((with_reducible refine CallK.pure (i7) (Wks.refl _) ?_); simp [upd, hw, h1, h2, h3, h4])
      | ((with_reducible refine CallK.pure (i8) (Wks.refl _) ?_); simp [upd, hw, h1, h2, h3, h4])
      | (refine Tri.exit ?_; simp [upd, hw, h1, h2, h3, h4]; first | (rename ∀ st, Tri _ _ _ st _ → _ => hK; first | (apply hK; clear hK) | (clear hK; rename ∀ st, Tri _ _ _ st _ → _ => hK; first | (apply hK; clear hK) | (clear hK; rename ∀ st, Tri _ _ _ st _ → _ => hK; first | (apply hK; clear hK) | (clear hK; rename ∀ st, Tri _ _ _ st _ → _ => hK; first | (apply hK; clear hK) | (clear hK; rename ∀ st, Tri _ _ _ st _ → _ => hK; first | (apply hK; clear hK) | (clear hK; rename ∀ st, Tri _ _ _ st _ → _ => hK; apply hK; clear hK)))))) | skip)
      | (intro β)
      | (rename ∀ st, Tri _ _ _ st _ → _ => hK; apply hK; clear hK))
    refine Tri.ret ⟨_, rfl, ?_⟩
    simp [upd]
    exact Wk.refl _
  cases h5 : belowB a.frm 32
  case false =>
    repeat (first
      | (refine Tri.seq fun K hK => ?_)
      | (refine Tri.region ?_; simp [upd, hw, h1, h2, h3, h4, h5])
      | (refine Tri.draw (by kernel_rfl) (by decide +kernel) ?_; simp [upd, hw, h1, h2, h3, h4, h5])
      | (refine Tri.cond_true ?_ ?_; (focus simp [upd, hw, h1, h2, h3, h4, h5]; done))
      | (refine Tri.cond_false ?_ ?_; (focus simp [upd, hw, h1, h2, h3, h4, h5]; done))
      | (refine Tri.skip ?_; simp only [thenS, blockS])
      | (refine Tri.block_seq ?_)
      | (refine Tri.block_region ?_)
      | (refine Tri.block_cond ?_)
      | ((with_reducible refine CallK.pure (i1) (Wks.refl _) ?_); simp [upd, hw, h1, h2, h3, h4, h5])
      | ((with_reducible refine CallK.pure (i2) (Wks.refl _) ?_); simp [upd, hw, h1, h2, h3, h4, h5])
      | ((with_reducible refine CallK.pure (i3) (Wks.refl _) ?_); simp [upd, hw, h1, h2, h3, h4, h5])
      | ((with_reducible refine CallK.pure (i4) (Wks.refl _) ?_); simp [upd, hw, h1, h2, h3, h4, h5])
      | ((with_reducible refine CallK.pure (i5) (Wks.refl _) ?_); simp [upd, hw, h1, h2, h3, h4, h5])
      | ((with_reducible refine CallK.pure (i6) (Wks.refl _) ?_); simp [upd, hw, h1, h2, h3, h4, h5])
      | ((with_reducible refine CallK.pure (i7) (Wks.refl _) ?_); simp [upd, hw, h1, h2, h3, h4, h5])
      | ((with_reducible refine CallK.pure (i8) (Wks.refl _) ?_); simp [upd, hw, h1, h2, h3, h4, h5])
      | (refine Tri.exit ?_; simp [upd, hw, h1, h2, h3, h4, h5]; first | (rename ∀ st, Tri _ _ _ st _ → _ => hK; first | (apply hK; clear hK) | (clear hK; rename ∀ st, Tri _ _ _ st _ → _ => hK; first | (apply hK; clear hK) | (clear hK; rename ∀ st, Tri _ _ _ st _ → _ => hK; first | (apply hK; clear hK) | (clear hK; rename ∀ st, Tri _ _ _ st _ → _ => hK; first | (apply hK; clear hK) | (clear hK; rename ∀ st, Tri _ _ _ st _ → _ => hK; first | (apply hK; clear hK) | (clear hK; rename ∀ st, Tri _ _ _ st _ → _ => hK; apply hK; clear hK)))))) | skip)
      | (intro β)
      | (rename ∀ st, Tri _ _ _ st _ → _ => hK; apply hK; clear hK))
    refine Tri.ret ⟨_, rfl, ?_⟩
    simp [upd]
    exact Wk.refl _
  cases h6 : belowB a.to 32
  case false =>
    repeat (first
      | (refine Tri.seq fun K hK => ?_)
      | (refine Tri.region ?_; simp [upd, hw, h1, h2, h3, h4, h5, h6])
      | (refine Tri.draw (by kernel_rfl) (by decide +kernel) ?_; simp [upd, hw, h1, h2, h3, h4, h5, h6])
      | (refine Tri.cond_true ?_ ?_; (focus simp [upd, hw, h1, h2, h3, h4, h5, h6]; done))
      | (refine Tri.cond_false ?_ ?_; (focus simp [upd, hw, h1, h2, h3, h4, h5, h6]; done))
      | (refine Tri.skip ?_; simp only [thenS, blockS])
      | (refine Tri.block_seq ?_)
      | (refine Tri.block_region ?_)
      | (refine Tri.block_cond ?_)
      | ((with_reducible refine CallK.pure (i1) (Wks.refl _) ?_); simp [upd, hw, h1, h2, h3, h4, h5, h6])
      | ((with_reducible refine CallK.pure (i2) (Wks.refl _) ?_); simp [upd, hw, h1, h2, h3, h4, h5, h6])
      | ((with_reducible refine CallK.pure (i3) (Wks.refl _) ?_); simp [upd, hw, h1, h2, h3, h4, h5, h6])
      | ((with_reducible refine CallK.pure (i4) (Wks.refl _) ?_); simp [upd, hw, h1, h2, h3, h4, h5, h6])
      | ((with_reducible refine CallK.pure (i5) (Wks.refl _) ?_); simp [upd, hw, h1, h2, h3, h4, h5, h6])
      | ((with_reducible refine CallK.pure (i6) (Wks.refl _) ?_); simp [upd, hw, h1, h2, h3, h4, h5, h6])
      | ((with_reducible refine CallK.pure (i7) (Wks.refl _) ?_); simp [upd, hw, h1, h2, h3, h4, h5, h6])
      | ((with_reducible refine CallK.pure (i8) (Wks.refl _) ?_); simp [upd, hw, h1, h2, h3, h4, h5, h6])
      | (refine Tri.exit ?_; simp [upd, hw, h1, h2, h3, h4, h5, h6]; first | (rename ∀ st, Tri _ _ _ st _ → _ => hK; first | (apply hK; clear hK) | (clear hK; rename ∀ st, Tri _ _ _ st _ → _ => hK; first | (apply hK; clear hK) | (clear hK; rename ∀ st, Tri _ _ _ st _ → _ => hK; first | (apply hK; clear hK) | (clear hK; rename ∀ st, Tri _ _ _ st _ → _ => hK; first | (apply hK; clear hK) | (clear hK; rename ∀ st, Tri _ _ _ st _ → _ => hK; first | (apply hK; clear hK) | (clear hK; rename ∀ st, Tri _ _ _ st _ → _ => hK; apply hK; clear hK)))))) | skip)
      | (intro β)
      | (rename ∀ st, Tri _ _ _ st _ → _ => hK; apply hK; clear hK))
    refine Tri.ret ⟨_, rfl, ?_⟩
    simp [upd]
    exact Wk.refl _
  cases h7 : (a.frm == a.to)
  case true =>
    repeat (first
      | (refine Tri.seq fun K hK => ?_)
      | (refine Tri.region ?_; simp [upd, hw, h1, h2, h3, h4, h5, h6, h7, bne])
      | (refine Tri.draw (by kernel_rfl) (by decide +kernel) ?_; simp [upd, hw, h1, h2, h3, h4, h5, h6, h7, bne])
      | (refine Tri.cond_true ?_ ?_; (focus simp [upd, hw, h1, h2, h3, h4, h5, h6, h7, bne]; done))
      | (refine Tri.cond_false ?_ ?_; (focus simp [upd, hw, h1, h2, h3, h4, h5, h6, h7, bne]; done))
      | (refine Tri.skip ?_; simp only [thenS, blockS])
      | (refine Tri.block_seq ?_)
      | (refine Tri.block_region ?_)
      | (refine Tri.block_cond ?_)
      | ((with_reducible refine CallK.pure (i1) (Wks.refl _) ?_); simp [upd, hw, h1, h2, h3, h4, h5, h6, h7, bne])
      | ((with_reducible refine CallK.pure (i2) (Wks.refl _) ?_); simp [upd, hw, h1, h2, h3, h4, h5, h6, h7, bne])
      | ((with_reducible refine CallK.pure (i3) (Wks.refl _) ?_); simp [upd, hw, h1, h2, h3, h4, h5, h6, h7, bne])
      | ((with_reducible refine CallK.pure (i4) (Wks.refl _) ?_); simp [upd, hw, h1, h2, h3, h4, h5, h6, h7, bne])
      | ((with_reducible refine CallK.pure (i5) (Wks.refl _) ?_); simp [upd, hw, h1, h2, h3, h4, h5, h6, h7, bne])
      | ((with_reducible refine CallK.pure (i6) (Wks.refl _) ?_); simp [upd, hw, h1, h2, h3, h4, h5, h6, h7, bne])
      | ((with_reducible refine CallK.pure (i7) (Wks.refl _) ?_); simp [upd, hw, h1, h2, h3, h4, h5, h6, h7, bne])
      | ((with_reducible refine CallK.pure (i8) (Wks.refl _) ?_); simp [upd, hw, h1, h2, h3, h4, h5, h6, h7, bne])
      | (refine Tri.exit ?_; simp [upd, hw, h1, h2, h3, h4, h5, h6, h7, bne]; first | (rename ∀ st, Tri _ _ _ st _ → _ => hK; first | (apply hK; clear hK) | (clear hK; rename ∀ st, Tri _ _ _ st _ → _ => hK; first | (apply hK; clear hK) | (clear hK; rename ∀ st, Tri _ _ _ st _ → _ => hK; first | (apply hK; clear hK) | (clear hK; rename ∀ st, Tri _ _ _ st _ → _ => hK; first | (apply hK; clear hK) | (clear hK; rename ∀ st, Tri _ _ _ st _ → _ => hK; first | (apply hK; clear hK) | (clear hK; rename ∀ st, Tri _ _ _ st _ → _ => hK; apply hK; clear hK)))))) | skip)
      | (intro β)
      | (rename ∀ st, Tri _ _ _ st _ → _ => hK; apply hK; clear hK))
    refine Tri.ret ⟨_, rfl, ?_⟩
    simp [upd]
    exact Wk.refl _
  cases h8 : belowB a.flow 256
  case false =>
    repeat (first
      | (refine Tri.seq fun K hK => ?_)
      | (refine Tri.region ?_; simp [upd, hw, h1, h2, h3, h4, h5, h6, h7, h8, bne])
      | (refine Tri.draw (by kernel_rfl) (by decide +kernel) ?_; simp [upd, hw, h1, h2, h3, h4, h5, h6, h7, h8, bne])
      | (refine Tri.cond_true ?_ ?_; (focus simp [upd, hw, h1, h2, h3, h4, h5, h6, h7, h8, bne]; done))
      | (refine Tri.cond_false ?_ ?_; (focus simp [upd, hw, h1, h2, h3, h4, h5, h6, h7, h8, bne]; done))
      | (refine Tri.skip ?_; simp only [thenS, blockS])
      | (refine Tri.block_seq ?_)
      | (refine Tri.block_region ?_)
      | (refine Tri.block_cond ?_)
      | ((with_reducible refine CallK.pure (i1) (Wks.refl _) ?_); simp [upd, hw, h1, h2, h3, h4, h5, h6, h7, h8, bne])
      | ((with_reducible refine CallK.pure (i2) (Wks.refl _) ?_); simp [upd, hw, h1, h2, h3, h4, h5, h6, h7, h8, bne])
      | ((with_reducible refine CallK.pure (i3) (Wks.refl _) ?_); simp [upd, hw, h1, h2, h3, h4, h5, h6, h7, h8, bne])
      | ((with_reducible refine CallK.pure (i4) (Wks.refl _) ?_); simp [upd, hw, h1, h2, h3, h4, h5, h6, h7, h8, bne])
      | ((with_reducible refine CallK.pure (i5) (Wks.refl _) ?_); simp [upd, hw, h1, h2, h3, h4, h5, h6, h7, h8, bne])
      | ((with_reducible refine CallK.pure (i6) (Wks.refl _) ?_); simp [upd, hw, h1, h2, h3, h4, h5, h6, h7, h8, bne])
      | ((with_reducible refine CallK.pure (i7) (Wks.refl _) ?_); simp [upd, hw, h1, h2, h3, h4, h5, h6, h7, h8, bne])
      | ((with_reducible refine CallK.pure (i8) (Wks.refl _) ?_); simp [upd, hw, h1, h2, h3, h4, h5, h6, h7, h8, bne])
      | (refine Tri.exit ?_; simp [upd, hw, h1, h2, h3, h4, h5, h6, h7, h8, bne]; first | (rename ∀ st, Tri _ _ _ st _ → _ => hK; first | (apply hK; clear hK) | (clear hK; rename ∀ st, Tri _ _ _ st _ → _ => hK; first | (apply hK; clear hK) | (clear hK; rename ∀ st, Tri _ _ _ st _ → _ => hK; first | (apply hK; clear hK) | (clear hK; rename ∀ st, Tri _ _ _ st _ → _ => hK; first | (apply hK; clear hK) | (clear hK; rename ∀ st, Tri _ _ _ st _ → _ => hK; first | (apply hK; clear hK) | (clear hK; rename ∀ st, Tri _ _ _ st _ → _ => hK; apply hK; clear hK)))))) | skip)
      | (intro β)
      | (rename ∀ st, Tri _ _ _ st _ → _ => hK; apply hK; clear hK))
    refine Tri.ret ⟨_, rfl, ?_⟩
    simp [upd]
    exact Wk.refl _
  repeat (first
    | (refine Tri.seq fun K hK => ?_)
    | (refine Tri.region ?_; simp [upd, hw, h1, h2, h3, h4, h5, h6, h7, h8, bne])
    | (refine Tri.draw (by kernel_rfl) (by decide +kernel) ?_; simp [upd, hw, h1, h2, h3, h4, h5, h6, h7, h8, bne])
    | (refine Tri.cond_true ?_ ?_; (focus simp [upd, hw, h1, h2, h3, h4, h5, h6, h7, h8, bne]; done))
    | (refine Tri.cond_false ?_ ?_; (focus simp [upd, hw, h1, h2, h3, h4, h5, h6, h7, h8, bne]; done))
    | (refine Tri.skip ?_; simp only [thenS, blockS])
    | (refine Tri.block_seq ?_)
    | (refine Tri.block_region ?_)
    | (refine Tri.block_cond ?_)
    | ((with_reducible refine CallK.pure (i1) (Wks.refl _) ?_); simp [upd, hw, h1, h2, h3, h4, h5, h6, h7, h8, bne])
    | ((with_reducible refine CallK.pure (i2) (Wks.refl _) ?_); simp [upd, hw, h1, h2, h3, h4, h5, h6, h7, h8, bne])
    | ((with_reducible refine CallK.pure (i3) (Wks.refl _) ?_); simp [upd, hw, h1, h2, h3, h4, h5, h6, h7, h8, bne])
    | ((with_reducible refine CallK.pure (i4) (Wks.refl _) ?_); simp [upd, hw, h1, h2, h3, h4, h5, h6, h7, h8, bne])
    | ((with_reducible refine CallK.pure (i5) (Wks.refl _) ?_); simp [upd, hw, h1, h2, h3, h4, h5, h6, h7, h8, bne])
    | ((with_reducible refine CallK.pure (i6) (Wks.refl _) ?_); simp [upd, hw, h1, h2, h3, h4, h5, h6, h7, h8, bne])
    | ((with_reducible refine CallK.pure (i7) (Wks.refl _) ?_); simp [upd, hw, h1, h2, h3, h4, h5, h6, h7, h8, bne])
    | ((with_reducible refine CallK.pure (i8) (Wks.refl _) ?_); simp [upd, hw, h1, h2, h3, h4, h5, h6, h7, h8, bne])
    | (refine Tri.exit ?_; simp [upd, hw, h1, h2, h3, h4, h5, h6, h7, h8, bne]; first | (rename ∀ st, Tri _ _ _ st _ → _ => hK; first | (apply hK; clear hK) | (clear hK; rename ∀ st, Tri _ _ _ st _ → _ => hK; first | (apply hK; clear hK) | (clear hK; rename ∀ st, Tri _ _ _ st _ → _ => hK; first | (apply hK; clear hK) | (clear hK; rename ∀ st, Tri _ _ _ st _ → _ => hK; first | (apply hK; clear hK) | (clear hK; rename ∀ st, Tri _ _ _ st _ → _ => hK; first | (apply hK; clear hK) | (clear hK; rename ∀ st, Tri _ _ _ st _ → _ => hK; apply hK; clear hK)))))) | skip)
    | (intro β)
    | (rename ∀ st, Tri _ _ _ st _ → _ => hK; apply hK; clear hK))
  refine Tri.ret ⟨_, rfl, ?_⟩
  simp [upd]
  exact Wk.refl _
structure KI (r : Rec) (st : St) (b1 : Nat) : Prop where
  hn : st.n = 152
  s1 : st.sl 1 = .c (.box 1 b1 0)
  x1 : st.bx 1 = some (b1, [.int .i64 r.slots, .sl r.an 8 none (r.atts.map attC), .sl r.dn 3 none (r.dels.map delC)])
/-- The first i attempts are in order. -/
def UpA (r : Rec) (i : Nat) : Prop := (∀ k (_ : k < r.atts.length), k < i → attOk r.atts[k] r.slots = true) ∧ ∀ k l (_ : k < r.atts.length) (_ : l < r.atts.length), k < l → l < i → okA r.atts[k] r.atts[l]
def UpD (r : Rec) (i : Nat) : Prop := (∀ k (_ : k < r.dels.length), k < i → delOk r.dels[k] r.slots) ∧ ∀ k l (_ : k < r.dels.length) (_ : l < r.dels.length), k < l → l < i → ltD r.dels[k] r.dels[l]
theorem UpA.all {r : Rec} (h : UpA r r.atts.length) : AttsP r.slots r.atts :=
  ⟨fun a ha => by obtain ⟨k, hk, rfl⟩ := List.getElem_of_mem ha; exact h.1 k hk hk, List.pairwise_iff_getElem.2 fun k l hk hl hkl => h.2 k l hk hl hkl hl⟩
theorem UpD.all {r : Rec} (h : UpD r r.dels.length) : DelsP r.slots r.dels :=
  ⟨fun a ha => by obtain ⟨k, hk, rfl⟩ := List.getElem_of_mem ha; exact h.1 k hk hk, List.pairwise_iff_getElem.2 fun k l hk hl hkl => h.2 k l hk hl hkl hl⟩
theorem UpA.succ {r : Rec} {i : Nat} (h : UpA r i) (hi : i < r.atts.length) (ho : attOk r.atts[i] r.slots = true) (hk : ∀ k (_ : k < r.atts.length), k < i → okA r.atts[k] r.atts[i]) : UpA r (i + 1) := by
  refine ⟨fun k hkl hki => ?_, fun k l hkl hll hlt hli => ?_⟩
  · rcases Nat.lt_succ_iff_lt_or_eq.1 hki with h' | rfl
    · exact h.1 k hkl h'
    · exact ho
  · rcases Nat.lt_succ_iff_lt_or_eq.1 hli with h' | rfl
    · exact h.2 k l hkl hll hlt h'
    · exact hk k hkl hlt
theorem UpD.succ {r : Rec} {i : Nat} (h : UpD r i) (hi : i < r.dels.length) (ho : delOk r.dels[i] r.slots) (hk : ∀ k (_ : k < r.dels.length), k < i → ltD r.dels[k] r.dels[i]) : UpD r (i + 1) := by
  refine ⟨fun k hkl hki => ?_, fun k l hkl hll hlt hli => ?_⟩
  · rcases Nat.lt_succ_iff_lt_or_eq.1 hki with h' | rfl
    · exact h.1 k hkl h'
    · exact ho
  · rcases Nat.lt_succ_iff_lt_or_eq.1 hli with h' | rfl
    · exact h.2 k l hkl hll hlt h'
    · exact hk k hkl hlt
theorem UpA.ltA {r : Rec} {p : Nat} (h : UpA r (p + 1)) (hp : p + 1 < r.atts.length) (hl : cmpA r.atts[p] r.atts[p + 1] < 0) : ∀ k (_ : k < r.atts.length), k < p + 1 → ltA r.atts[k] r.atts[p + 1] := by
  intro k hk hkp
  have h1 := (cmpA_lt _ _).1 hl
  rcases Nat.lt_succ_iff_lt_or_eq.1 hkp with h' | rfl
  · exact ltA_trans (h.2 k p hk (by omega) h' (by omega)).1 h1
  · exact h1
theorem not_order {r : Rec} (h : ¬ InOrder r) : check r = 1 := by
  have : ¬ check r = 0 := fun e => h ((check_iff r).1 e)
  unfold check at this ⊢
  split <;> simp_all
theorem bad_att {r : Rec} (i : Nat) (hi : i < r.atts.length) (h : attOk r.atts[i] r.slots = false) : check r = 1 :=
  not_order fun ho => by have := ho.atts.1 _ (List.getElem_mem hi); rw [h] at this; cases this
theorem bad_pair {r : Rec} (i j : Nat) (hi : i < r.atts.length) (hj : j < i) (h : ¬ okA r.atts[j] r.atts[i]) : check r = 1 :=
  not_order fun ho => h (List.pairwise_iff_getElem.1 ho.atts.2 j i (by omega) hi hj)
theorem bad_del {r : Rec} (i : Nat) (hi : i < r.dels.length) (h : ¬ delOk r.dels[i] r.slots) : check r = 1 :=
  not_order fun ho => h (ho.dels.1 _ (List.getElem_mem hi))
theorem bad_dpair {r : Rec} (i j : Nat) (hi : i < r.dels.length) (hj : j < i) (h : ¬ ltD r.dels[j] r.dels[i]) : check r = 1 :=
  not_order fun ho => h (List.pairwise_iff_getElem.1 ho.dels.2 j i (by omega) hi hj)
def KInv1 (r : Rec) (m : Nat) (st : St) : Prop := ∃ b1 i, KI r st b1 ∧ m + i = r.atts.length ∧ st.sl 3 = .c (.int .i64 (i : Nat)) ∧ UpA r i
def KEnd1 (r : Rec) (st : St) : Prop := ∃ b1, KI r st b1 ∧ UpA r r.atts.length
def KInv2 (r : Rec) (i : Nat) (b4 : Nat) (a : Att) (m : Nat) (st : St) : Prop := ∃ (b1 : Nat) (j : Int), KI r st b1 ∧ st.sl 4 = .c (.box 4 b4 0) ∧ st.bx 4 = some (b4, attC a) ∧ st.sl 3 = .c (.int .i64 (i : Nat)) ∧ st.sl 5 = .c (.int .i64 j) ∧ (m : Int) = j + 1 ∧ j < i ∧ ∀ k (_ : k < r.atts.length), j < (k : Int) → k < i → r.atts[k].frm ≠ a.frm
def KEnd2 (r : Rec) (i : Nat) (a : Att) (st : St) : Prop := ∃ b1, KI r st b1 ∧ st.sl 3 = .c (.int .i64 (i : Nat)) ∧ ∀ k (_ : k < r.atts.length), k < i → ¬ (r.atts[k].slot = a.slot ∧ r.atts[k].frm = a.frm)
def KInv3 (r : Rec) (m : Nat) (st : St) : Prop := ∃ b1 i, KI r st b1 ∧ m + i = r.dels.length ∧ st.sl 6 = .c (.int .i64 (i : Nat)) ∧ UpD r i
theorem ltD_trans {a b c : Del} (h1 : ltD a b) (h2 : ltD b c) : ltD a c := by
  unfold ltD at *
  omega
theorem checkR_does (r : Rec) : Does Try.prog 19 [.agg (recC r)] (.c (.int .i64 (check r))) := by
  refine Does.of_body Try.func19 rfl (by kernel_rfl) rfl rfl (by simp) ?_
  intro E
  have i0 := in0_does r.slots 4096 4097 (by omega)
  have hck := check_iff r
  simp only [recC]
  cases g1 : belowB r.slots 4097
  case false =>
    rw [not_order (r := r) fun h => by
      have := h.s0; have := h.s1
      simp [belowB] at g1; omega]
    repeat (first
      | (refine Tri.seq fun K hK => ?_)
      | (refine Tri.region ?_; simp [upd, g1])
      | (refine Tri.draw (by kernel_rfl) (by decide +kernel) ?_; simp [upd, g1])
      | (refine Tri.cond_true ?_ ?_; (focus simp [upd, g1]; done))
      | (refine Tri.cond_false ?_ ?_; (focus simp [upd, g1]; done))
      | (refine Tri.skip ?_; simp only [thenS, blockS])
      | (refine Tri.block_seq ?_)
      | (refine Tri.block_region ?_)
      | (refine Tri.block_cond ?_)
      | ((with_reducible refine CallK.pure (i0) (Wks.refl _) ?_); simp [upd, g1])
      | (refine Tri.exit ?_; simp [upd, g1]; first | (rename ∀ st, Tri _ _ _ st _ → _ => hK; first | (apply hK; clear hK) | (clear hK; rename ∀ st, Tri _ _ _ st _ → _ => hK; first | (apply hK; clear hK) | (clear hK; rename ∀ st, Tri _ _ _ st _ → _ => hK; first | (apply hK; clear hK) | (clear hK; rename ∀ st, Tri _ _ _ st _ → _ => hK; first | (apply hK; clear hK) | (clear hK; rename ∀ st, Tri _ _ _ st _ → _ => hK; first | (apply hK; clear hK) | (clear hK; rename ∀ st, Tri _ _ _ st _ → _ => hK; apply hK; clear hK)))))) | skip)
      | (intro β)
      | (rename ∀ st, Tri _ _ _ st _ → _ => hK; apply hK; clear hK))
    refine Tri.ret ⟨_, rfl, ?_⟩
    simp [upd]
    exact Wk.refl _
  by_cases g2 : (65536 : Int) < (r.atts.length : Int)
  · rw [not_order (r := r) fun h => by have := h.al; omega]
    repeat (first
      | (refine Tri.seq fun K hK => ?_)
      | (refine Tri.region ?_; simp [upd, g1, g2])
      | (refine Tri.draw (by kernel_rfl) (by decide +kernel) ?_; simp [upd, g1, g2])
      | (refine Tri.cond_true ?_ ?_; (focus simp [upd, g1, g2]; done))
      | (refine Tri.cond_false ?_ ?_; (focus simp [upd, g1, g2]; done))
      | (refine Tri.skip ?_; simp only [thenS, blockS])
      | (refine Tri.block_seq ?_)
      | (refine Tri.block_region ?_)
      | (refine Tri.block_cond ?_)
      | ((with_reducible refine CallK.pure (i0) (Wks.refl _) ?_); simp [upd, g1, g2])
      | (refine Tri.exit ?_; simp [upd, g1, g2]; first | (rename ∀ st, Tri _ _ _ st _ → _ => hK; first | (apply hK; clear hK) | (clear hK; rename ∀ st, Tri _ _ _ st _ → _ => hK; first | (apply hK; clear hK) | (clear hK; rename ∀ st, Tri _ _ _ st _ → _ => hK; first | (apply hK; clear hK) | (clear hK; rename ∀ st, Tri _ _ _ st _ → _ => hK; first | (apply hK; clear hK) | (clear hK; rename ∀ st, Tri _ _ _ st _ → _ => hK; first | (apply hK; clear hK) | (clear hK; rename ∀ st, Tri _ _ _ st _ → _ => hK; apply hK; clear hK)))))) | skip)
      | (intro β)
      | (rename ∀ st, Tri _ _ _ st _ → _ => hK; apply hK; clear hK))
    refine Tri.ret ⟨_, rfl, ?_⟩
    simp [upd]
    exact Wk.refl _
  by_cases g3 : (65536 : Int) < (r.dels.length : Int)
  · rw [not_order (r := r) fun h => by have := h.dl; omega]
    repeat (first
      | (refine Tri.seq fun K hK => ?_)
      | (refine Tri.region ?_; simp [upd, g1, g2, g3])
      | (refine Tri.draw (by kernel_rfl) (by decide +kernel) ?_; simp [upd, g1, g2, g3])
      | (refine Tri.cond_true ?_ ?_; (focus simp [upd, g1, g2, g3]; done))
      | (refine Tri.cond_false ?_ ?_; (focus simp [upd, g1, g2, g3]; done))
      | (refine Tri.skip ?_; simp only [thenS, blockS])
      | (refine Tri.block_seq ?_)
      | (refine Tri.block_region ?_)
      | (refine Tri.block_cond ?_)
      | ((with_reducible refine CallK.pure (i0) (Wks.refl _) ?_); simp [upd, g1, g2, g3])
      | (refine Tri.exit ?_; simp [upd, g1, g2, g3]; first | (rename ∀ st, Tri _ _ _ st _ → _ => hK; first | (apply hK; clear hK) | (clear hK; rename ∀ st, Tri _ _ _ st _ → _ => hK; first | (apply hK; clear hK) | (clear hK; rename ∀ st, Tri _ _ _ st _ → _ => hK; first | (apply hK; clear hK) | (clear hK; rename ∀ st, Tri _ _ _ st _ → _ => hK; first | (apply hK; clear hK) | (clear hK; rename ∀ st, Tri _ _ _ st _ → _ => hK; first | (apply hK; clear hK) | (clear hK; rename ∀ st, Tri _ _ _ st _ → _ => hK; apply hK; clear hK)))))) | skip)
      | (intro β)
      | (rename ∀ st, Tri _ _ _ st _ → _ => hK; apply hK; clear hK))
    refine Tri.ret ⟨_, rfl, ?_⟩
    simp [upd]
    exact Wk.refl _
  have hs : 0 ≤ r.slots ∧ r.slots < 4097 := by simpa [belowB] using g1
  repeat (first
    | (refine Tri.seq fun K hK => ?_)
    | (refine Tri.region ?_; simp [upd, g1, g2, g3])
    | (refine Tri.draw (by kernel_rfl) (by decide +kernel) ?_; simp [upd, g1, g2, g3])
    | (refine Tri.cond_true ?_ ?_; (focus simp [upd, g1, g2, g3]; done))
    | (refine Tri.cond_false ?_ ?_; (focus simp [upd, g1, g2, g3]; done))
    | (refine Tri.skip ?_; simp only [thenS, blockS])
    | (refine Tri.block_seq ?_)
    | (refine Tri.block_region ?_)
    | (refine Tri.block_cond ?_)
    | ((with_reducible refine CallK.pure (i0) (Wks.refl _) ?_); simp [upd, g1, g2, g3])
    | (refine Tri.exit ?_; simp [upd, g1, g2, g3]; first | (rename ∀ st, Tri _ _ _ st _ → _ => hK; first | (apply hK; clear hK) | (clear hK; rename ∀ st, Tri _ _ _ st _ → _ => hK; first | (apply hK; clear hK) | (clear hK; rename ∀ st, Tri _ _ _ st _ → _ => hK; first | (apply hK; clear hK) | (clear hK; rename ∀ st, Tri _ _ _ st _ → _ => hK; first | (apply hK; clear hK) | (clear hK; rename ∀ st, Tri _ _ _ st _ → _ => hK; first | (apply hK; clear hK) | (clear hK; rename ∀ st, Tri _ _ _ st _ → _ => hK; apply hK; clear hK)))))) | skip)
    | (intro β)
    | (rename ∀ st, Tri _ _ _ st _ → _ => hK; apply hK; clear hK))
  rename ∀ st, Tri _ _ _ st _ → _ => hK
  have fin := fun (st : St) (h : KEnd1 r st) => hK st ?tail
  case tail =>
    obtain ⟨b1, ⟨hn, s1, x1⟩, hA⟩ := h
    clear hK
    repeat (first
      | (refine Tri.seq fun K hK => ?_)
      | (refine Tri.region ?_; simp [upd, hn, s1, x1])
      | (refine Tri.draw (by kernel_rfl) (by decide +kernel) ?_; simp [upd, hn, s1, x1])
      | (refine Tri.cond_true ?_ ?_; (focus simp [upd, hn, s1, x1]; done))
      | (refine Tri.cond_false ?_ ?_; (focus simp [upd, hn, s1, x1]; done))
      | (refine Tri.skip ?_; simp only [thenS, blockS])
      | (refine Tri.block_seq ?_)
      | (refine Tri.block_region ?_)
      | (refine Tri.block_cond ?_)
      | (refine Tri.exit ?_; simp [upd, hn, s1, x1]; first | (rename ∀ st, Tri _ _ _ st _ → _ => hK; first | (apply hK; clear hK) | (clear hK; rename ∀ st, Tri _ _ _ st _ → _ => hK; first | (apply hK; clear hK) | (clear hK; rename ∀ st, Tri _ _ _ st _ → _ => hK; first | (apply hK; clear hK) | (clear hK; rename ∀ st, Tri _ _ _ st _ → _ => hK; first | (apply hK; clear hK) | (clear hK; rename ∀ st, Tri _ _ _ st _ → _ => hK; first | (apply hK; clear hK) | (clear hK; rename ∀ st, Tri _ _ _ st _ → _ => hK; apply hK; clear hK)))))) | skip)
      | (intro β)
      | (rename ∀ st, Tri _ _ _ st _ → _ => hK; apply hK; clear hK))
    rename ∀ st, Tri _ _ _ st _ → _ => hK
    have fin3 := fun (st : St) (h : st.n = 152 ∧ UpD r r.dels.length) => hK st ?tail
    case tail =>
      obtain ⟨hn, hD⟩ := h
      have ho : check r = 0 := hck.2 ⟨hs.1, by omega, by omega, by omega, hA.all, hD.all⟩
      rw [ho]
      repeat (first
        | (refine Tri.seq fun K hK => ?_)
        | (refine Tri.region ?_; simp [upd, hn])
        | (refine Tri.draw (by kernel_rfl) (by decide +kernel) ?_; simp [upd, hn])
        | (refine Tri.cond_true ?_ ?_; (focus simp [upd, hn]; done))
        | (refine Tri.cond_false ?_ ?_; (focus simp [upd, hn]; done))
        | (refine Tri.skip ?_; simp only [thenS, blockS])
        | (refine Tri.block_seq ?_)
        | (refine Tri.block_region ?_)
        | (refine Tri.block_cond ?_)
        | (refine Tri.exit ?_; simp [upd, hn]; first | (rename ∀ st, Tri _ _ _ st _ → _ => hK; first | (apply hK; clear hK) | (clear hK; rename ∀ st, Tri _ _ _ st _ → _ => hK; first | (apply hK; clear hK) | (clear hK; rename ∀ st, Tri _ _ _ st _ → _ => hK; first | (apply hK; clear hK) | (clear hK; rename ∀ st, Tri _ _ _ st _ → _ => hK; first | (apply hK; clear hK) | (clear hK; rename ∀ st, Tri _ _ _ st _ → _ => hK; first | (apply hK; clear hK) | (clear hK; rename ∀ st, Tri _ _ _ st _ → _ => hK; apply hK; clear hK)))))) | skip)
        | (intro β)
        | (rename ∀ st, Tri _ _ _ st _ → _ => hK; apply hK; clear hK))
      refine Tri.ret ⟨_, rfl, ?_⟩
      simp [upd]
      exact Wk.refl _
    clear hK
    refine Tri.block (Tri.loop (KInv3 r) r.dels.length ?_ ?_)
    · exact ⟨b1, 0, ⟨rfl, by simp [upd, s1], by simpa using x1⟩, rfl, by simp [upd], ⟨fun k _ h => by omega, fun k l _ _ _ h => by omega⟩⟩
    · clear hn s1 x1
      rintro m st ⟨b1, i, ⟨hn, s1, x1⟩, hm, s6, hP⟩
      by_cases hi : i < r.dels.length
      case neg =>
        have : i = r.dels.length := by omega
        subst this
        repeat (first
          | (refine Tri.seq fun K hK => ?_)
          | (refine Tri.region ?_; simp [upd, hn, s1, x1, s6])
          | (refine Tri.draw (by kernel_rfl) (by decide +kernel) ?_; simp [upd, hn, s1, x1, s6])
          | (refine Tri.cond_true ?_ ?_; (focus simp [upd, hn, s1, x1, s6]; done))
          | (refine Tri.cond_false ?_ ?_; (focus simp [upd, hn, s1, x1, s6]; done))
          | (refine Tri.skip ?_; simp only [thenS, blockS])
          | (refine Tri.block_seq ?_)
          | (refine Tri.block_region ?_)
          | (refine Tri.block_cond ?_)
          | (refine Tri.exit ?_; simp [upd, hn, s1, x1, s6]; first | (rename ∀ st, Tri _ _ _ st _ → _ => hK; first | (apply hK; clear hK) | (clear hK; rename ∀ st, Tri _ _ _ st _ → _ => hK; first | (apply hK; clear hK) | (clear hK; rename ∀ st, Tri _ _ _ st _ → _ => hK; first | (apply hK; clear hK) | (clear hK; rename ∀ st, Tri _ _ _ st _ → _ => hK; first | (apply hK; clear hK) | (clear hK; rename ∀ st, Tri _ _ _ st _ → _ => hK; first | (apply hK; clear hK) | (clear hK; rename ∀ st, Tri _ _ _ st _ → _ => hK; apply hK; clear hK)))))) | skip)
          | (intro β)
          | (rename ∀ st, Tri _ _ _ st _ → _ => hK; apply hK; clear hK))
        apply fin3
        exact ⟨rfl, hP⟩
      have hw1 : IntKind.i64.wrap ((i : Int) + 1) = (i : Int) + 1 := wrap_i64 (by omega) (by omega)
      have hws : IntKind.i64.wrap (r.slots - 1) = r.slots - 1 := wrap_i64 (by omega) (by omega)
      have j1 := in0_does r.dels[i].slot (r.slots - 1) r.slots (by omega)
      have j2 := in0_does r.dels[i].flow 255 256 (by omega)
      have j3 := in0_does r.dels[i].frame 1048575 1048576 (by omega)
      have hok : delOk r.dels[i] r.slots ↔ belowB r.dels[i].slot r.slots = true ∧ belowB r.dels[i].flow 256 = true ∧ belowB r.dels[i].frame 1048576 = true := by
        simp only [delOk, belowB, decide_eq_true_eq]
        omega
      cases c1 : belowB r.dels[i].slot r.slots
      case false =>
        rw [bad_del i hi (fun h => by have := (hok.1 h).1; rw [c1] at this; cases this)]
        repeat (first
          | (refine Tri.seq fun K hK => ?_)
          | (refine Tri.region ?_; simp [upd, hn, s1, x1, s6, hi, hws, c1])
          | (refine Tri.draw (by kernel_rfl) (by decide +kernel) ?_; simp [upd, hn, s1, x1, s6, hi, hws, c1])
          | (refine Tri.cond_true ?_ ?_; (focus simp [upd, hn, s1, x1, s6, hi, hws, c1]; done))
          | (refine Tri.cond_false ?_ ?_; (focus simp [upd, hn, s1, x1, s6, hi, hws, c1]; done))
          | (refine Tri.skip ?_; simp only [thenS, blockS])
          | (refine Tri.block_seq ?_)
          | (refine Tri.block_region ?_)
          | (refine Tri.block_cond ?_)
          | ((with_reducible refine CallK.pure (j1) (Wks.refl _) ?_); simp [upd, hn, s1, x1, s6, hi, hws, c1])
          | ((with_reducible refine CallK.pure (j2) (Wks.refl _) ?_); simp [upd, hn, s1, x1, s6, hi, hws, c1])
          | ((with_reducible refine CallK.pure (j3) (Wks.refl _) ?_); simp [upd, hn, s1, x1, s6, hi, hws, c1])
          | (refine Tri.exit ?_; simp [upd, hn, s1, x1, s6, hi, hws, c1]; first | (rename ∀ st, Tri _ _ _ st _ → _ => hK; first | (apply hK; clear hK) | (clear hK; rename ∀ st, Tri _ _ _ st _ → _ => hK; first | (apply hK; clear hK) | (clear hK; rename ∀ st, Tri _ _ _ st _ → _ => hK; first | (apply hK; clear hK) | (clear hK; rename ∀ st, Tri _ _ _ st _ → _ => hK; first | (apply hK; clear hK) | (clear hK; rename ∀ st, Tri _ _ _ st _ → _ => hK; first | (apply hK; clear hK) | (clear hK; rename ∀ st, Tri _ _ _ st _ → _ => hK; apply hK; clear hK)))))) | skip)
          | (intro β)
          | (rename ∀ st, Tri _ _ _ st _ → _ => hK; apply hK; clear hK))
        refine Tri.ret ⟨_, rfl, ?_⟩
        simp [upd]
        exact Wk.refl _
      cases c2 : belowB r.dels[i].flow 256
      case false =>
        rw [bad_del i hi (fun h => by have := (hok.1 h).2.1; rw [c2] at this; cases this)]
        repeat (first
          | (refine Tri.seq fun K hK => ?_)
          | (refine Tri.region ?_; simp [upd, hn, s1, x1, s6, hi, hws, c1, c2])
          | (refine Tri.draw (by kernel_rfl) (by decide +kernel) ?_; simp [upd, hn, s1, x1, s6, hi, hws, c1, c2])
          | (refine Tri.cond_true ?_ ?_; (focus simp [upd, hn, s1, x1, s6, hi, hws, c1, c2]; done))
          | (refine Tri.cond_false ?_ ?_; (focus simp [upd, hn, s1, x1, s6, hi, hws, c1, c2]; done))
          | (refine Tri.skip ?_; simp only [thenS, blockS])
          | (refine Tri.block_seq ?_)
          | (refine Tri.block_region ?_)
          | (refine Tri.block_cond ?_)
          | ((with_reducible refine CallK.pure (j1) (Wks.refl _) ?_); simp [upd, hn, s1, x1, s6, hi, hws, c1, c2])
          | ((with_reducible refine CallK.pure (j2) (Wks.refl _) ?_); simp [upd, hn, s1, x1, s6, hi, hws, c1, c2])
          | ((with_reducible refine CallK.pure (j3) (Wks.refl _) ?_); simp [upd, hn, s1, x1, s6, hi, hws, c1, c2])
          | (refine Tri.exit ?_; simp [upd, hn, s1, x1, s6, hi, hws, c1, c2]; first | (rename ∀ st, Tri _ _ _ st _ → _ => hK; first | (apply hK; clear hK) | (clear hK; rename ∀ st, Tri _ _ _ st _ → _ => hK; first | (apply hK; clear hK) | (clear hK; rename ∀ st, Tri _ _ _ st _ → _ => hK; first | (apply hK; clear hK) | (clear hK; rename ∀ st, Tri _ _ _ st _ → _ => hK; first | (apply hK; clear hK) | (clear hK; rename ∀ st, Tri _ _ _ st _ → _ => hK; first | (apply hK; clear hK) | (clear hK; rename ∀ st, Tri _ _ _ st _ → _ => hK; apply hK; clear hK)))))) | skip)
          | (intro β)
          | (rename ∀ st, Tri _ _ _ st _ → _ => hK; apply hK; clear hK))
        refine Tri.ret ⟨_, rfl, ?_⟩
        simp [upd]
        exact Wk.refl _
      cases c3 : belowB r.dels[i].frame 1048576
      case false =>
        rw [bad_del i hi (fun h => by have := (hok.1 h).2.2; rw [c3] at this; cases this)]
        repeat (first
          | (refine Tri.seq fun K hK => ?_)
          | (refine Tri.region ?_; simp [upd, hn, s1, x1, s6, hi, hws, c1, c2, c3])
          | (refine Tri.draw (by kernel_rfl) (by decide +kernel) ?_; simp [upd, hn, s1, x1, s6, hi, hws, c1, c2, c3])
          | (refine Tri.cond_true ?_ ?_; (focus simp [upd, hn, s1, x1, s6, hi, hws, c1, c2, c3]; done))
          | (refine Tri.cond_false ?_ ?_; (focus simp [upd, hn, s1, x1, s6, hi, hws, c1, c2, c3]; done))
          | (refine Tri.skip ?_; simp only [thenS, blockS])
          | (refine Tri.block_seq ?_)
          | (refine Tri.block_region ?_)
          | (refine Tri.block_cond ?_)
          | ((with_reducible refine CallK.pure (j1) (Wks.refl _) ?_); simp [upd, hn, s1, x1, s6, hi, hws, c1, c2, c3])
          | ((with_reducible refine CallK.pure (j2) (Wks.refl _) ?_); simp [upd, hn, s1, x1, s6, hi, hws, c1, c2, c3])
          | ((with_reducible refine CallK.pure (j3) (Wks.refl _) ?_); simp [upd, hn, s1, x1, s6, hi, hws, c1, c2, c3])
          | (refine Tri.exit ?_; simp [upd, hn, s1, x1, s6, hi, hws, c1, c2, c3]; first | (rename ∀ st, Tri _ _ _ st _ → _ => hK; first | (apply hK; clear hK) | (clear hK; rename ∀ st, Tri _ _ _ st _ → _ => hK; first | (apply hK; clear hK) | (clear hK; rename ∀ st, Tri _ _ _ st _ → _ => hK; first | (apply hK; clear hK) | (clear hK; rename ∀ st, Tri _ _ _ st _ → _ => hK; first | (apply hK; clear hK) | (clear hK; rename ∀ st, Tri _ _ _ st _ → _ => hK; first | (apply hK; clear hK) | (clear hK; rename ∀ st, Tri _ _ _ st _ → _ => hK; apply hK; clear hK)))))) | skip)
          | (intro β)
          | (rename ∀ st, Tri _ _ _ st _ → _ => hK; apply hK; clear hK))
        refine Tri.ret ⟨_, rfl, ?_⟩
        simp [upd]
        exact Wk.refl _
      have hok := hok.2 ⟨c1, c2, c3⟩
      by_cases hi0 : 0 < i
      case neg =>
        repeat (first
          | (refine Tri.seq fun K hK => ?_)
          | (refine Tri.region ?_; simp [upd, hn, s1, x1, s6, hi, hi0, hws, c1, c2, c3, hw1])
          | (refine Tri.draw (by kernel_rfl) (by decide +kernel) ?_; simp [upd, hn, s1, x1, s6, hi, hi0, hws, c1, c2, c3, hw1])
          | (refine Tri.cond_true ?_ ?_; (focus simp [upd, hn, s1, x1, s6, hi, hi0, hws, c1, c2, c3, hw1]; done))
          | (refine Tri.cond_false ?_ ?_; (focus simp [upd, hn, s1, x1, s6, hi, hi0, hws, c1, c2, c3, hw1]; done))
          | (refine Tri.skip ?_; simp only [thenS, blockS])
          | (refine Tri.block_seq ?_)
          | (refine Tri.block_region ?_)
          | (refine Tri.block_cond ?_)
          | ((with_reducible refine CallK.pure (j1) (Wks.refl _) ?_); simp [upd, hn, s1, x1, s6, hi, hi0, hws, c1, c2, c3, hw1])
          | ((with_reducible refine CallK.pure (j2) (Wks.refl _) ?_); simp [upd, hn, s1, x1, s6, hi, hi0, hws, c1, c2, c3, hw1])
          | ((with_reducible refine CallK.pure (j3) (Wks.refl _) ?_); simp [upd, hn, s1, x1, s6, hi, hi0, hws, c1, c2, c3, hw1])
          | (refine Tri.exit ?_; simp [upd, hn, s1, x1, s6, hi, hi0, hws, c1, c2, c3, hw1]; first | (rename ∀ st, Tri _ _ _ st _ → _ => hK; first | (apply hK; clear hK) | (clear hK; rename ∀ st, Tri _ _ _ st _ → _ => hK; first | (apply hK; clear hK) | (clear hK; rename ∀ st, Tri _ _ _ st _ → _ => hK; first | (apply hK; clear hK) | (clear hK; rename ∀ st, Tri _ _ _ st _ → _ => hK; first | (apply hK; clear hK) | (clear hK; rename ∀ st, Tri _ _ _ st _ → _ => hK; first | (apply hK; clear hK) | (clear hK; rename ∀ st, Tri _ _ _ st _ → _ => hK; apply hK; clear hK)))))) | skip)
          | (intro β)
          | (rename ∀ st, Tri _ _ _ st _ → _ => hK; apply hK; clear hK))
        exact ⟨m - 1, by omega, b1, i + 1, ⟨rfl, by simp [upd, s1], by simpa using x1⟩, by omega, by simp [upd], hP.succ hi hok fun k hk hki => by omega⟩
      obtain ⟨p, hp⟩ : ∃ p, p = i - 1 := ⟨i - 1, rfl⟩
      have hpl : p < r.dels.length := by omega
      have hwp : IntKind.i64.wrap ((i : Int) - 1) = (p : Int) := by rw [wrap_i64 (by omega) (by omega)]; omega
      by_cases e1 : r.dels[i].slot < r.dels[p].slot
      · rw [bad_dpair i p hi (by omega) (fun h => by unfold ltD at h; omega)]
        repeat (first
          | (refine Tri.seq fun K hK => ?_)
          | (refine Tri.region ?_; simp [upd, hn, s1, x1, s6, hi, hi0, hws, c1, c2, c3, hw1, hwp, hpl, e1])
          | (refine Tri.draw (by kernel_rfl) (by decide +kernel) ?_; simp [upd, hn, s1, x1, s6, hi, hi0, hws, c1, c2, c3, hw1, hwp, hpl, e1])
          | (refine Tri.cond_true ?_ ?_; (focus simp [upd, hn, s1, x1, s6, hi, hi0, hws, c1, c2, c3, hw1, hwp, hpl, e1]; done))
          | (refine Tri.cond_false ?_ ?_; (focus simp [upd, hn, s1, x1, s6, hi, hi0, hws, c1, c2, c3, hw1, hwp, hpl, e1]; done))
          | (refine Tri.skip ?_; simp only [thenS, blockS])
          | (refine Tri.block_seq ?_)
          | (refine Tri.block_region ?_)
          | (refine Tri.block_cond ?_)
          | ((with_reducible refine CallK.pure (j1) (Wks.refl _) ?_); simp [upd, hn, s1, x1, s6, hi, hi0, hws, c1, c2, c3, hw1, hwp, hpl, e1])
          | ((with_reducible refine CallK.pure (j2) (Wks.refl _) ?_); simp [upd, hn, s1, x1, s6, hi, hi0, hws, c1, c2, c3, hw1, hwp, hpl, e1])
          | ((with_reducible refine CallK.pure (j3) (Wks.refl _) ?_); simp [upd, hn, s1, x1, s6, hi, hi0, hws, c1, c2, c3, hw1, hwp, hpl, e1])
          | (refine Tri.exit ?_; simp [upd, hn, s1, x1, s6, hi, hi0, hws, c1, c2, c3, hw1, hwp, hpl, e1]; first | (rename ∀ st, Tri _ _ _ st _ → _ => hK; first | (apply hK; clear hK) | (clear hK; rename ∀ st, Tri _ _ _ st _ → _ => hK; first | (apply hK; clear hK) | (clear hK; rename ∀ st, Tri _ _ _ st _ → _ => hK; first | (apply hK; clear hK) | (clear hK; rename ∀ st, Tri _ _ _ st _ → _ => hK; first | (apply hK; clear hK) | (clear hK; rename ∀ st, Tri _ _ _ st _ → _ => hK; first | (apply hK; clear hK) | (clear hK; rename ∀ st, Tri _ _ _ st _ → _ => hK; apply hK; clear hK)))))) | skip)
          | (intro β)
          | (rename ∀ st, Tri _ _ _ st _ → _ => hK; apply hK; clear hK))
        refine Tri.ret ⟨_, rfl, ?_⟩
        simp [upd]
        exact Wk.refl _
      cases e2 : (r.dels[i].slot == r.dels[p].slot)
      case false =>
        have hl : ltD r.dels[p] r.dels[i] := by
          simp only [beq_eq_false_iff_ne, ne_eq] at e2
          left; omega
        repeat (first
          | (refine Tri.seq fun K hK => ?_)
          | (refine Tri.region ?_; simp [upd, hn, s1, x1, s6, hi, hi0, hws, c1, c2, c3, hw1, hwp, hpl, e1, e2])
          | (refine Tri.draw (by kernel_rfl) (by decide +kernel) ?_; simp [upd, hn, s1, x1, s6, hi, hi0, hws, c1, c2, c3, hw1, hwp, hpl, e1, e2])
          | (refine Tri.cond_true ?_ ?_; (focus simp [upd, hn, s1, x1, s6, hi, hi0, hws, c1, c2, c3, hw1, hwp, hpl, e1, e2]; done))
          | (refine Tri.cond_false ?_ ?_; (focus simp [upd, hn, s1, x1, s6, hi, hi0, hws, c1, c2, c3, hw1, hwp, hpl, e1, e2]; done))
          | (refine Tri.skip ?_; simp only [thenS, blockS])
          | (refine Tri.block_seq ?_)
          | (refine Tri.block_region ?_)
          | (refine Tri.block_cond ?_)
          | ((with_reducible refine CallK.pure (j1) (Wks.refl _) ?_); simp [upd, hn, s1, x1, s6, hi, hi0, hws, c1, c2, c3, hw1, hwp, hpl, e1, e2])
          | ((with_reducible refine CallK.pure (j2) (Wks.refl _) ?_); simp [upd, hn, s1, x1, s6, hi, hi0, hws, c1, c2, c3, hw1, hwp, hpl, e1, e2])
          | ((with_reducible refine CallK.pure (j3) (Wks.refl _) ?_); simp [upd, hn, s1, x1, s6, hi, hi0, hws, c1, c2, c3, hw1, hwp, hpl, e1, e2])
          | (refine Tri.exit ?_; simp [upd, hn, s1, x1, s6, hi, hi0, hws, c1, c2, c3, hw1, hwp, hpl, e1, e2]; first | (rename ∀ st, Tri _ _ _ st _ → _ => hK; first | (apply hK; clear hK) | (clear hK; rename ∀ st, Tri _ _ _ st _ → _ => hK; first | (apply hK; clear hK) | (clear hK; rename ∀ st, Tri _ _ _ st _ → _ => hK; first | (apply hK; clear hK) | (clear hK; rename ∀ st, Tri _ _ _ st _ → _ => hK; first | (apply hK; clear hK) | (clear hK; rename ∀ st, Tri _ _ _ st _ → _ => hK; first | (apply hK; clear hK) | (clear hK; rename ∀ st, Tri _ _ _ st _ → _ => hK; apply hK; clear hK)))))) | skip)
          | (intro β)
          | (rename ∀ st, Tri _ _ _ st _ → _ => hK; apply hK; clear hK))
        exact ⟨m - 1, by omega, b1, i + 1, ⟨rfl, by simp [upd, s1], by simpa using x1⟩, by omega, by simp [upd], hP.succ hi hok fun k hk hki => by
          rcases Nat.lt_or_eq_of_le (show k ≤ p by omega) with h' | rfl
          · exact ltD_trans (hP.2 k p hk hpl h' (by omega)) hl
          · exact hl⟩
      by_cases e3 : r.dels[i].flow ≤ r.dels[p].flow
      · rw [bad_dpair i p hi (by omega) (fun h => by simp only [beq_iff_eq] at e2; unfold ltD at h; omega)]
        repeat (first
          | (refine Tri.seq fun K hK => ?_)
          | (refine Tri.region ?_; simp [upd, hn, s1, x1, s6, hi, hi0, hws, c1, c2, c3, hw1, hwp, hpl, e1, e2, e3])
          | (refine Tri.draw (by kernel_rfl) (by decide +kernel) ?_; simp [upd, hn, s1, x1, s6, hi, hi0, hws, c1, c2, c3, hw1, hwp, hpl, e1, e2, e3])
          | (refine Tri.cond_true ?_ ?_; (focus simp [upd, hn, s1, x1, s6, hi, hi0, hws, c1, c2, c3, hw1, hwp, hpl, e1, e2, e3]; done))
          | (refine Tri.cond_false ?_ ?_; (focus simp [upd, hn, s1, x1, s6, hi, hi0, hws, c1, c2, c3, hw1, hwp, hpl, e1, e2, e3]; done))
          | (refine Tri.skip ?_; simp only [thenS, blockS])
          | (refine Tri.block_seq ?_)
          | (refine Tri.block_region ?_)
          | (refine Tri.block_cond ?_)
          | ((with_reducible refine CallK.pure (j1) (Wks.refl _) ?_); simp [upd, hn, s1, x1, s6, hi, hi0, hws, c1, c2, c3, hw1, hwp, hpl, e1, e2, e3])
          | ((with_reducible refine CallK.pure (j2) (Wks.refl _) ?_); simp [upd, hn, s1, x1, s6, hi, hi0, hws, c1, c2, c3, hw1, hwp, hpl, e1, e2, e3])
          | ((with_reducible refine CallK.pure (j3) (Wks.refl _) ?_); simp [upd, hn, s1, x1, s6, hi, hi0, hws, c1, c2, c3, hw1, hwp, hpl, e1, e2, e3])
          | (refine Tri.exit ?_; simp [upd, hn, s1, x1, s6, hi, hi0, hws, c1, c2, c3, hw1, hwp, hpl, e1, e2, e3]; first | (rename ∀ st, Tri _ _ _ st _ → _ => hK; first | (apply hK; clear hK) | (clear hK; rename ∀ st, Tri _ _ _ st _ → _ => hK; first | (apply hK; clear hK) | (clear hK; rename ∀ st, Tri _ _ _ st _ → _ => hK; first | (apply hK; clear hK) | (clear hK; rename ∀ st, Tri _ _ _ st _ → _ => hK; first | (apply hK; clear hK) | (clear hK; rename ∀ st, Tri _ _ _ st _ → _ => hK; first | (apply hK; clear hK) | (clear hK; rename ∀ st, Tri _ _ _ st _ → _ => hK; apply hK; clear hK)))))) | skip)
          | (intro β)
          | (rename ∀ st, Tri _ _ _ st _ → _ => hK; apply hK; clear hK))
        refine Tri.ret ⟨_, rfl, ?_⟩
        simp [upd]
        exact Wk.refl _
      have hl : ltD r.dels[p] r.dels[i] := by
        simp only [beq_iff_eq] at e2
        right; omega
      repeat (first
        | (refine Tri.seq fun K hK => ?_)
        | (refine Tri.region ?_; simp [upd, hn, s1, x1, s6, hi, hi0, hws, c1, c2, c3, hw1, hwp, hpl, e1, e2, e3])
        | (refine Tri.draw (by kernel_rfl) (by decide +kernel) ?_; simp [upd, hn, s1, x1, s6, hi, hi0, hws, c1, c2, c3, hw1, hwp, hpl, e1, e2, e3])
        | (refine Tri.cond_true ?_ ?_; (focus simp [upd, hn, s1, x1, s6, hi, hi0, hws, c1, c2, c3, hw1, hwp, hpl, e1, e2, e3]; done))
        | (refine Tri.cond_false ?_ ?_; (focus simp [upd, hn, s1, x1, s6, hi, hi0, hws, c1, c2, c3, hw1, hwp, hpl, e1, e2, e3]; done))
        | (refine Tri.skip ?_; simp only [thenS, blockS])
        | (refine Tri.block_seq ?_)
        | (refine Tri.block_region ?_)
        | (refine Tri.block_cond ?_)
        | ((with_reducible refine CallK.pure (j1) (Wks.refl _) ?_); simp [upd, hn, s1, x1, s6, hi, hi0, hws, c1, c2, c3, hw1, hwp, hpl, e1, e2, e3])
        | ((with_reducible refine CallK.pure (j2) (Wks.refl _) ?_); simp [upd, hn, s1, x1, s6, hi, hi0, hws, c1, c2, c3, hw1, hwp, hpl, e1, e2, e3])
        | ((with_reducible refine CallK.pure (j3) (Wks.refl _) ?_); simp [upd, hn, s1, x1, s6, hi, hi0, hws, c1, c2, c3, hw1, hwp, hpl, e1, e2, e3])
        | (refine Tri.exit ?_; simp [upd, hn, s1, x1, s6, hi, hi0, hws, c1, c2, c3, hw1, hwp, hpl, e1, e2, e3]; first | (rename ∀ st, Tri _ _ _ st _ → _ => hK; first | (apply hK; clear hK) | (clear hK; rename ∀ st, Tri _ _ _ st _ → _ => hK; first | (apply hK; clear hK) | (clear hK; rename ∀ st, Tri _ _ _ st _ → _ => hK; first | (apply hK; clear hK) | (clear hK; rename ∀ st, Tri _ _ _ st _ → _ => hK; first | (apply hK; clear hK) | (clear hK; rename ∀ st, Tri _ _ _ st _ → _ => hK; first | (apply hK; clear hK) | (clear hK; rename ∀ st, Tri _ _ _ st _ → _ => hK; apply hK; clear hK)))))) | skip)
        | (intro β)
        | (rename ∀ st, Tri _ _ _ st _ → _ => hK; apply hK; clear hK))
      exact ⟨m - 1, by omega, b1, i + 1, ⟨rfl, by simp [upd, s1], by simpa using x1⟩, by omega, by simp [upd], hP.succ hi hok fun k hk hki => by
        rcases Nat.lt_or_eq_of_le (show k ≤ p by omega) with h' | rfl
        · exact ltD_trans (hP.2 k p hk hpl h' (by omega)) hl
        · exact hl⟩
  clear hK
  refine Tri.block (Tri.loop (KInv1 r) r.atts.length ?_ ?_)
  · exact ⟨_, 0, ⟨rfl, by simp [upd] <;> exact rfl, by simp [upd] <;> exact rfl⟩, rfl, by simp [upd], ⟨fun k _ h => by omega, fun k l _ _ _ h => by omega⟩⟩
  · rintro m st ⟨b1, i, ⟨hn, s1, x1⟩, hm, s3, hP⟩
    by_cases hi : i < r.atts.length
    case neg =>
      have : i = r.atts.length := by omega
      subst this
      repeat (first
        | (refine Tri.seq fun K hK => ?_)
        | (refine Tri.region ?_; simp [upd, hn, s1, x1, s3])
        | (refine Tri.draw (by kernel_rfl) (by decide +kernel) ?_; simp [upd, hn, s1, x1, s3])
        | (refine Tri.cond_true ?_ ?_; (focus simp [upd, hn, s1, x1, s3]; done))
        | (refine Tri.cond_false ?_ ?_; (focus simp [upd, hn, s1, x1, s3]; done))
        | (refine Tri.skip ?_; simp only [thenS, blockS])
        | (refine Tri.block_seq ?_)
        | (refine Tri.block_region ?_)
        | (refine Tri.block_cond ?_)
        | (refine Tri.exit ?_; simp [upd, hn, s1, x1, s3]; first | (rename ∀ st, Tri _ _ _ st _ → _ => hK; first | (apply hK; clear hK) | (clear hK; rename ∀ st, Tri _ _ _ st _ → _ => hK; first | (apply hK; clear hK) | (clear hK; rename ∀ st, Tri _ _ _ st _ → _ => hK; first | (apply hK; clear hK) | (clear hK; rename ∀ st, Tri _ _ _ st _ → _ => hK; first | (apply hK; clear hK) | (clear hK; rename ∀ st, Tri _ _ _ st _ → _ => hK; first | (apply hK; clear hK) | (clear hK; rename ∀ st, Tri _ _ _ st _ → _ => hK; apply hK; clear hK)))))) | skip)
        | (intro β)
        | (rename ∀ st, Tri _ _ _ st _ → _ => hK; apply hK; clear hK))
      apply fin
      exact ⟨b1, ⟨rfl, by simp [upd, s1], by simpa using x1⟩, hP⟩
    have l49 := attR_does r r.atts[i] hs.1 (by omega)
    simp only [recC] at l49
    have hw1 : IntKind.i64.wrap ((i : Int) + 1) = (i : Int) + 1 := wrap_i64 (by omega) (by omega)
    have hwm : IntKind.i64.wrap ((i : Int) - 1) = (i : Int) - 1 := wrap_i64 (by omega) (by omega)
    cases c1 : attOk r.atts[i] r.slots
    case false =>
      rw [bad_att i hi c1]
      repeat (first
        | (refine Tri.seq fun K hK => ?_)
        | (refine Tri.region ?_; simp [upd, hn, s1, x1, s3, hi, c1])
        | (refine Tri.draw (by kernel_rfl) (by decide +kernel) ?_; simp [upd, hn, s1, x1, s3, hi, c1])
        | (refine Tri.cond_true ?_ ?_; (focus simp [upd, hn, s1, x1, s3, hi, c1]; done))
        | (refine Tri.cond_false ?_ ?_; (focus simp [upd, hn, s1, x1, s3, hi, c1]; done))
        | (refine Tri.skip ?_; simp only [thenS, blockS])
        | (refine Tri.block_seq ?_)
        | (refine Tri.block_region ?_)
        | (refine Tri.block_cond ?_)
        | ((with_reducible refine CallK.pure (l49) (Wks.refl _) ?_); simp [upd, hn, s1, x1, s3, hi, c1])
        | (refine Tri.exit ?_; simp [upd, hn, s1, x1, s3, hi, c1]; first | (rename ∀ st, Tri _ _ _ st _ → _ => hK; first | (apply hK; clear hK) | (clear hK; rename ∀ st, Tri _ _ _ st _ → _ => hK; first | (apply hK; clear hK) | (clear hK; rename ∀ st, Tri _ _ _ st _ → _ => hK; first | (apply hK; clear hK) | (clear hK; rename ∀ st, Tri _ _ _ st _ → _ => hK; first | (apply hK; clear hK) | (clear hK; rename ∀ st, Tri _ _ _ st _ → _ => hK; first | (apply hK; clear hK) | (clear hK; rename ∀ st, Tri _ _ _ st _ → _ => hK; apply hK; clear hK)))))) | skip)
        | (intro β)
        | (rename ∀ st, Tri _ _ _ st _ → _ => hK; apply hK; clear hK))
      refine Tri.ret ⟨_, rfl, ?_⟩
      simp [upd]
      exact Wk.refl _
    by_cases hi0 : 0 < i
    case neg =>
      have hlt : ∀ k (_ : k < r.atts.length), k < i → ltA r.atts[k] r.atts[i] := fun k _ h => by omega
      repeat (first
        | (refine Tri.seq fun K hK => ?_)
        | (refine Tri.region ?_; simp [upd, hn, s1, x1, s3, hi, hi0, c1, hwm])
        | (refine Tri.draw (by kernel_rfl) (by decide +kernel) ?_; simp [upd, hn, s1, x1, s3, hi, hi0, c1, hwm])
        | (refine Tri.cond_true ?_ ?_; (focus simp [upd, hn, s1, x1, s3, hi, hi0, c1, hwm]; done))
        | (refine Tri.cond_false ?_ ?_; (focus simp [upd, hn, s1, x1, s3, hi, hi0, c1, hwm]; done))
        | (refine Tri.skip ?_; simp only [thenS, blockS])
        | (refine Tri.block_seq ?_)
        | (refine Tri.block_region ?_)
        | (refine Tri.block_cond ?_)
        | ((with_reducible refine CallK.pure (l49) (Wks.refl _) ?_); simp [upd, hn, s1, x1, s3, hi, hi0, c1, hwm])
        | (refine Tri.exit ?_; simp [upd, hn, s1, x1, s3, hi, hi0, c1, hwm]; first | (rename ∀ st, Tri _ _ _ st _ → _ => hK; first | (apply hK; clear hK) | (clear hK; rename ∀ st, Tri _ _ _ st _ → _ => hK; first | (apply hK; clear hK) | (clear hK; rename ∀ st, Tri _ _ _ st _ → _ => hK; first | (apply hK; clear hK) | (clear hK; rename ∀ st, Tri _ _ _ st _ → _ => hK; first | (apply hK; clear hK) | (clear hK; rename ∀ st, Tri _ _ _ st _ → _ => hK; first | (apply hK; clear hK) | (clear hK; rename ∀ st, Tri _ _ _ st _ → _ => hK; apply hK; clear hK)))))) | skip)
        | (intro β)
        | (rename ∀ st, Tri _ _ _ st _ → _ => hK; apply hK; clear hK))
      rename ∀ st, Tri _ _ _ st _ → _ => hK
      have fin2 := fun (st : St) (h : KEnd2 r i r.atts[i] st) => hK st ?tail
      case tail =>
        clear s3 s1 x1 hn hK
        obtain ⟨b1, ⟨hn, s1, x1⟩, s3, hno⟩ := h
        repeat (first
          | (refine Tri.seq fun K hK => ?_)
          | (refine Tri.region ?_; simp [upd, hn, s1, x1, s3, hw1])
          | (refine Tri.draw (by kernel_rfl) (by decide +kernel) ?_; simp [upd, hn, s1, x1, s3, hw1])
          | (refine Tri.cond_true ?_ ?_; (focus simp [upd, hn, s1, x1, s3, hw1]; done))
          | (refine Tri.cond_false ?_ ?_; (focus simp [upd, hn, s1, x1, s3, hw1]; done))
          | (refine Tri.skip ?_; simp only [thenS, blockS])
          | (refine Tri.block_seq ?_)
          | (refine Tri.block_region ?_)
          | (refine Tri.block_cond ?_)
          | (refine Tri.exit ?_; simp [upd, hn, s1, x1, s3, hw1]; first | (rename ∀ st, Tri _ _ _ st _ → _ => hK; first | (apply hK; clear hK) | (clear hK; rename ∀ st, Tri _ _ _ st _ → _ => hK; first | (apply hK; clear hK) | (clear hK; rename ∀ st, Tri _ _ _ st _ → _ => hK; first | (apply hK; clear hK) | (clear hK; rename ∀ st, Tri _ _ _ st _ → _ => hK; first | (apply hK; clear hK) | (clear hK; rename ∀ st, Tri _ _ _ st _ → _ => hK; first | (apply hK; clear hK) | (clear hK; rename ∀ st, Tri _ _ _ st _ → _ => hK; apply hK; clear hK)))))) | skip)
          | (intro β)
          | (rename ∀ st, Tri _ _ _ st _ → _ => hK; apply hK; clear hK))
        exact ⟨m - 1, by omega, b1, i + 1, ⟨rfl, by simp [upd, s1], by simpa using x1⟩, by omega, by simp [upd], hP.succ hi c1 fun k hk hki => ⟨hlt k hk hki, hno k hk hki⟩⟩
      clear hK
      refine Tri.block (Tri.loop (KInv2 r i β r.atts[i]) i ?_ ?_)
      · exact ⟨b1, (i : Int) - 1, ⟨rfl, by simp [upd, s1], by simp [x1]⟩, by simp [upd], by simp, by simp [upd, s3], by simp [upd, hwm] <;> omega, by omega, by omega, fun k hk h1 h2 => by omega⟩
      · clear hn s1 x1 s3
        rintro m2 st ⟨b1, j, ⟨hn, s1, x1⟩, s4, x4, s3, s5, hmj, hji, hno⟩
        by_cases hj0 : 0 ≤ j
        case neg =>
          repeat (first
            | (refine Tri.seq fun K hK => ?_)
            | (refine Tri.region ?_; simp [upd, hn, s1, x1, s4, x4, s3, s5, hj0])
            | (refine Tri.draw (by kernel_rfl) (by decide +kernel) ?_; simp [upd, hn, s1, x1, s4, x4, s3, s5, hj0])
            | (refine Tri.cond_true ?_ ?_; (focus simp [upd, hn, s1, x1, s4, x4, s3, s5, hj0]; done))
            | (refine Tri.cond_false ?_ ?_; (focus simp [upd, hn, s1, x1, s4, x4, s3, s5, hj0]; done))
            | (refine Tri.skip ?_; simp only [thenS, blockS])
            | (refine Tri.block_seq ?_)
            | (refine Tri.block_region ?_)
            | (refine Tri.block_cond ?_)
            | (refine Tri.exit ?_; simp [upd, hn, s1, x1, s4, x4, s3, s5, hj0]; first | (rename ∀ st, Tri _ _ _ st _ → _ => hK; first | (apply hK; clear hK) | (clear hK; rename ∀ st, Tri _ _ _ st _ → _ => hK; first | (apply hK; clear hK) | (clear hK; rename ∀ st, Tri _ _ _ st _ → _ => hK; first | (apply hK; clear hK) | (clear hK; rename ∀ st, Tri _ _ _ st _ → _ => hK; first | (apply hK; clear hK) | (clear hK; rename ∀ st, Tri _ _ _ st _ → _ => hK; first | (apply hK; clear hK) | (clear hK; rename ∀ st, Tri _ _ _ st _ → _ => hK; apply hK; clear hK)))))) | skip)
            | (intro β)
            | (rename ∀ st, Tri _ _ _ st _ → _ => hK; apply hK; clear hK))
          apply fin2
          exact ⟨b1, ⟨rfl, by simp [upd, s1], by simpa using x1⟩, by simp [upd, s3], fun k hk hki h => hno k hk (by omega) hki h.2⟩
        obtain ⟨j, rfl⟩ := Int.eq_ofNat_of_zero_le hj0
        have hjl : j < r.atts.length := by omega
        have hnw : IntKind.i64.wrap ((j : Int) - 1) = (j : Int) - 1 := wrap_i64 (by omega) (by omega)
        cases c3 : (r.atts[j].slot == r.atts[i].slot)
        case false =>
          repeat (first
            | (refine Tri.seq fun K hK => ?_)
            | (refine Tri.region ?_; simp [upd, hn, s1, x1, s4, x4, s3, s5, hj0, hjl, c3])
            | (refine Tri.draw (by kernel_rfl) (by decide +kernel) ?_; simp [upd, hn, s1, x1, s4, x4, s3, s5, hj0, hjl, c3])
            | (refine Tri.cond_true ?_ ?_; (focus simp [upd, hn, s1, x1, s4, x4, s3, s5, hj0, hjl, c3]; done))
            | (refine Tri.cond_false ?_ ?_; (focus simp [upd, hn, s1, x1, s4, x4, s3, s5, hj0, hjl, c3]; done))
            | (refine Tri.skip ?_; simp only [thenS, blockS])
            | (refine Tri.block_seq ?_)
            | (refine Tri.block_region ?_)
            | (refine Tri.block_cond ?_)
            | (refine Tri.exit ?_; simp [upd, hn, s1, x1, s4, x4, s3, s5, hj0, hjl, c3]; first | (rename ∀ st, Tri _ _ _ st _ → _ => hK; first | (apply hK; clear hK) | (clear hK; rename ∀ st, Tri _ _ _ st _ → _ => hK; first | (apply hK; clear hK) | (clear hK; rename ∀ st, Tri _ _ _ st _ → _ => hK; first | (apply hK; clear hK) | (clear hK; rename ∀ st, Tri _ _ _ st _ → _ => hK; first | (apply hK; clear hK) | (clear hK; rename ∀ st, Tri _ _ _ st _ → _ => hK; first | (apply hK; clear hK) | (clear hK; rename ∀ st, Tri _ _ _ st _ → _ => hK; apply hK; clear hK)))))) | skip)
            | (intro β)
            | (rename ∀ st, Tri _ _ _ st _ → _ => hK; apply hK; clear hK))
          apply fin2
          refine ⟨b1, ⟨rfl, by simp [upd, s1], by simpa using x1⟩, by simp [upd, s3], fun k hk hki h => ?_⟩
          rcases Nat.lt_or_ge j k with h' | h'
          · exact hno k hk (by omega) hki h.2
          · have h1 : r.atts[j].slot ≤ r.atts[i].slot := ltA_slot (hlt j hjl (by omega))
            have h2 : r.atts[k].slot ≤ r.atts[j].slot := by
              rcases Nat.lt_or_eq_of_le h' with h'' | rfl
              · exact ltA_slot (hP.2 k j hk hjl h'' (by omega)).1
              · exact Int.le_refl _
            simp only [beq_eq_false_iff_ne, ne_eq] at c3
            omega
        cases c4 : (r.atts[j].frm == r.atts[i].frm)
        case true =>
          rw [bad_pair i j hi (by omega) (fun h => h.2 ⟨by simpa using c3, by simpa using c4⟩)]
          repeat (first
            | (refine Tri.seq fun K hK => ?_)
            | (refine Tri.region ?_; simp [upd, hn, s1, x1, s4, x4, s3, s5, hj0, hjl, c3, c4])
            | (refine Tri.draw (by kernel_rfl) (by decide +kernel) ?_; simp [upd, hn, s1, x1, s4, x4, s3, s5, hj0, hjl, c3, c4])
            | (refine Tri.cond_true ?_ ?_; (focus simp [upd, hn, s1, x1, s4, x4, s3, s5, hj0, hjl, c3, c4]; done))
            | (refine Tri.cond_false ?_ ?_; (focus simp [upd, hn, s1, x1, s4, x4, s3, s5, hj0, hjl, c3, c4]; done))
            | (refine Tri.skip ?_; simp only [thenS, blockS])
            | (refine Tri.block_seq ?_)
            | (refine Tri.block_region ?_)
            | (refine Tri.block_cond ?_)
            | (refine Tri.exit ?_; simp [upd, hn, s1, x1, s4, x4, s3, s5, hj0, hjl, c3, c4]; first | (rename ∀ st, Tri _ _ _ st _ → _ => hK; first | (apply hK; clear hK) | (clear hK; rename ∀ st, Tri _ _ _ st _ → _ => hK; first | (apply hK; clear hK) | (clear hK; rename ∀ st, Tri _ _ _ st _ → _ => hK; first | (apply hK; clear hK) | (clear hK; rename ∀ st, Tri _ _ _ st _ → _ => hK; first | (apply hK; clear hK) | (clear hK; rename ∀ st, Tri _ _ _ st _ → _ => hK; first | (apply hK; clear hK) | (clear hK; rename ∀ st, Tri _ _ _ st _ → _ => hK; apply hK; clear hK)))))) | skip)
            | (intro β)
            | (rename ∀ st, Tri _ _ _ st _ → _ => hK; apply hK; clear hK))
          refine Tri.ret ⟨_, rfl, ?_⟩
          simp [upd]
          exact Wk.refl _
        repeat (first
          | (refine Tri.seq fun K hK => ?_)
          | (refine Tri.region ?_; simp [upd, hn, s1, x1, s4, x4, s3, s5, hj0, hjl, c3, c4, hnw])
          | (refine Tri.draw (by kernel_rfl) (by decide +kernel) ?_; simp [upd, hn, s1, x1, s4, x4, s3, s5, hj0, hjl, c3, c4, hnw])
          | (refine Tri.cond_true ?_ ?_; (focus simp [upd, hn, s1, x1, s4, x4, s3, s5, hj0, hjl, c3, c4, hnw]; done))
          | (refine Tri.cond_false ?_ ?_; (focus simp [upd, hn, s1, x1, s4, x4, s3, s5, hj0, hjl, c3, c4, hnw]; done))
          | (refine Tri.skip ?_; simp only [thenS, blockS])
          | (refine Tri.block_seq ?_)
          | (refine Tri.block_region ?_)
          | (refine Tri.block_cond ?_)
          | (refine Tri.exit ?_; simp [upd, hn, s1, x1, s4, x4, s3, s5, hj0, hjl, c3, c4, hnw]; first | (rename ∀ st, Tri _ _ _ st _ → _ => hK; first | (apply hK; clear hK) | (clear hK; rename ∀ st, Tri _ _ _ st _ → _ => hK; first | (apply hK; clear hK) | (clear hK; rename ∀ st, Tri _ _ _ st _ → _ => hK; first | (apply hK; clear hK) | (clear hK; rename ∀ st, Tri _ _ _ st _ → _ => hK; first | (apply hK; clear hK) | (clear hK; rename ∀ st, Tri _ _ _ st _ → _ => hK; first | (apply hK; clear hK) | (clear hK; rename ∀ st, Tri _ _ _ st _ → _ => hK; apply hK; clear hK)))))) | skip)
          | (intro β)
          | (rename ∀ st, Tri _ _ _ st _ → _ => hK; apply hK; clear hK))
        refine ⟨m2 - 1, by omega, b1, (j : Int) - 1, ⟨rfl, by simp [upd, s1], by simpa using x1⟩, by simp [upd, s4], by simpa using x4, by simp [upd, s3], by simp [upd], by omega, by omega, fun k hk h1 h2 => ?_⟩
        by_cases hkj : k = j
        · subst hkj; simpa using c4
        · exact hno k hk (by omega) h2
    obtain ⟨p, hp⟩ : ∃ p, p = i - 1 := ⟨i - 1, rfl⟩
    have hpl : p < r.atts.length := by omega
    have hwp : IntKind.i64.wrap ((i : Int) - 1) = (p : Int) := by rw [hwm]; omega
    have l50 := less_does r.atts[p] r.atts[i]
    cases c2 : decide (cmpA r.atts[p] r.atts[i] < 0)
    case false =>
      rw [bad_pair i p hi (by omega) (fun h => by have := (cmpA_lt _ _).2 h.1; simp at c2; omega)]
      rw [c2] at l50
      repeat (first
        | (refine Tri.seq fun K hK => ?_)
        | (refine Tri.region ?_; simp [upd, hn, s1, x1, s3, hi, hi0, c1, hwp, hpl])
        | (refine Tri.draw (by kernel_rfl) (by decide +kernel) ?_; simp [upd, hn, s1, x1, s3, hi, hi0, c1, hwp, hpl])
        | (refine Tri.cond_true ?_ ?_; (focus simp [upd, hn, s1, x1, s3, hi, hi0, c1, hwp, hpl]; done))
        | (refine Tri.cond_false ?_ ?_; (focus simp [upd, hn, s1, x1, s3, hi, hi0, c1, hwp, hpl]; done))
        | (refine Tri.skip ?_; simp only [thenS, blockS])
        | (refine Tri.block_seq ?_)
        | (refine Tri.block_region ?_)
        | (refine Tri.block_cond ?_)
        | ((with_reducible refine CallK.pure (l49) (Wks.refl _) ?_); simp [upd, hn, s1, x1, s3, hi, hi0, c1, hwp, hpl])
        | ((with_reducible refine CallK.pure (l50) (Wks.refl _) ?_); simp [upd, hn, s1, x1, s3, hi, hi0, c1, hwp, hpl])
        | (refine Tri.exit ?_; simp [upd, hn, s1, x1, s3, hi, hi0, c1, hwp, hpl]; first | (rename ∀ st, Tri _ _ _ st _ → _ => hK; first | (apply hK; clear hK) | (clear hK; rename ∀ st, Tri _ _ _ st _ → _ => hK; first | (apply hK; clear hK) | (clear hK; rename ∀ st, Tri _ _ _ st _ → _ => hK; first | (apply hK; clear hK) | (clear hK; rename ∀ st, Tri _ _ _ st _ → _ => hK; first | (apply hK; clear hK) | (clear hK; rename ∀ st, Tri _ _ _ st _ → _ => hK; first | (apply hK; clear hK) | (clear hK; rename ∀ st, Tri _ _ _ st _ → _ => hK; apply hK; clear hK)))))) | skip)
        | (intro β)
        | (rename ∀ st, Tri _ _ _ st _ → _ => hK; apply hK; clear hK))
      refine Tri.ret ⟨_, rfl, ?_⟩
      simp [upd]
      exact Wk.refl _
    have hlt : ∀ k (_ : k < r.atts.length), k < i → ltA r.atts[k] r.atts[i] := by
      have hip : i = p + 1 := by omega
      subst hip
      exact hP.ltA hi (by simpa using c2)
    rw [c2] at l50
    repeat (first
      | (refine Tri.seq fun K hK => ?_)
      | (refine Tri.region ?_; simp [upd, hn, s1, x1, s3, hi, hi0, c1, hwp, hpl])
      | (refine Tri.draw (by kernel_rfl) (by decide +kernel) ?_; simp [upd, hn, s1, x1, s3, hi, hi0, c1, hwp, hpl])
      | (refine Tri.cond_true ?_ ?_; (focus simp [upd, hn, s1, x1, s3, hi, hi0, c1, hwp, hpl]; done))
      | (refine Tri.cond_false ?_ ?_; (focus simp [upd, hn, s1, x1, s3, hi, hi0, c1, hwp, hpl]; done))
      | (refine Tri.skip ?_; simp only [thenS, blockS])
      | (refine Tri.block_seq ?_)
      | (refine Tri.block_region ?_)
      | (refine Tri.block_cond ?_)
      | ((with_reducible refine CallK.pure (l49) (Wks.refl _) ?_); simp [upd, hn, s1, x1, s3, hi, hi0, c1, hwp, hpl])
      | ((with_reducible refine CallK.pure (l50) (Wks.refl _) ?_); simp [upd, hn, s1, x1, s3, hi, hi0, c1, hwp, hpl])
      | (refine Tri.exit ?_; simp [upd, hn, s1, x1, s3, hi, hi0, c1, hwp, hpl]; first | (rename ∀ st, Tri _ _ _ st _ → _ => hK; first | (apply hK; clear hK) | (clear hK; rename ∀ st, Tri _ _ _ st _ → _ => hK; first | (apply hK; clear hK) | (clear hK; rename ∀ st, Tri _ _ _ st _ → _ => hK; first | (apply hK; clear hK) | (clear hK; rename ∀ st, Tri _ _ _ st _ → _ => hK; first | (apply hK; clear hK) | (clear hK; rename ∀ st, Tri _ _ _ st _ → _ => hK; first | (apply hK; clear hK) | (clear hK; rename ∀ st, Tri _ _ _ st _ → _ => hK; apply hK; clear hK)))))) | skip)
      | (intro β)
      | (rename ∀ st, Tri _ _ _ st _ → _ => hK; apply hK; clear hK))
    rename ∀ st, Tri _ _ _ st _ → _ => hK
    have fin2 := fun (st : St) (h : KEnd2 r i r.atts[i] st) => hK st ?tail
    case tail =>
      clear s3 s1 x1 hn hK
      obtain ⟨b1, ⟨hn, s1, x1⟩, s3, hno⟩ := h
      repeat (first
        | (refine Tri.seq fun K hK => ?_)
        | (refine Tri.region ?_; simp [upd, hn, s1, x1, s3, hw1])
        | (refine Tri.draw (by kernel_rfl) (by decide +kernel) ?_; simp [upd, hn, s1, x1, s3, hw1])
        | (refine Tri.cond_true ?_ ?_; (focus simp [upd, hn, s1, x1, s3, hw1]; done))
        | (refine Tri.cond_false ?_ ?_; (focus simp [upd, hn, s1, x1, s3, hw1]; done))
        | (refine Tri.skip ?_; simp only [thenS, blockS])
        | (refine Tri.block_seq ?_)
        | (refine Tri.block_region ?_)
        | (refine Tri.block_cond ?_)
        | (refine Tri.exit ?_; simp [upd, hn, s1, x1, s3, hw1]; first | (rename ∀ st, Tri _ _ _ st _ → _ => hK; first | (apply hK; clear hK) | (clear hK; rename ∀ st, Tri _ _ _ st _ → _ => hK; first | (apply hK; clear hK) | (clear hK; rename ∀ st, Tri _ _ _ st _ → _ => hK; first | (apply hK; clear hK) | (clear hK; rename ∀ st, Tri _ _ _ st _ → _ => hK; first | (apply hK; clear hK) | (clear hK; rename ∀ st, Tri _ _ _ st _ → _ => hK; first | (apply hK; clear hK) | (clear hK; rename ∀ st, Tri _ _ _ st _ → _ => hK; apply hK; clear hK)))))) | skip)
        | (intro β)
        | (rename ∀ st, Tri _ _ _ st _ → _ => hK; apply hK; clear hK))
      exact ⟨m - 1, by omega, b1, i + 1, ⟨rfl, by simp [upd, s1], by simpa using x1⟩, by omega, by simp [upd], hP.succ hi c1 fun k hk hki => ⟨hlt k hk hki, hno k hk hki⟩⟩
    clear hK
    refine Tri.block (Tri.loop (KInv2 r i β r.atts[i]) i ?_ ?_)
    · exact ⟨b1, (i : Int) - 1, ⟨rfl, by simp [upd, s1], by simp [x1]⟩, by simp [upd], by simp, by simp [upd, s3], by simp [upd, hwp] <;> omega, by omega, by omega, fun k hk h1 h2 => by omega⟩
    · clear hn s1 x1 s3
      rintro m2 st ⟨b1, j, ⟨hn, s1, x1⟩, s4, x4, s3, s5, hmj, hji, hno⟩
      by_cases hj0 : 0 ≤ j
      case neg =>
        repeat (first
          | (refine Tri.seq fun K hK => ?_)
          | (refine Tri.region ?_; simp [upd, hn, s1, x1, s4, x4, s3, s5, hj0])
          | (refine Tri.draw (by kernel_rfl) (by decide +kernel) ?_; simp [upd, hn, s1, x1, s4, x4, s3, s5, hj0])
          | (refine Tri.cond_true ?_ ?_; (focus simp [upd, hn, s1, x1, s4, x4, s3, s5, hj0]; done))
          | (refine Tri.cond_false ?_ ?_; (focus simp [upd, hn, s1, x1, s4, x4, s3, s5, hj0]; done))
          | (refine Tri.skip ?_; simp only [thenS, blockS])
          | (refine Tri.block_seq ?_)
          | (refine Tri.block_region ?_)
          | (refine Tri.block_cond ?_)
          | (refine Tri.exit ?_; simp [upd, hn, s1, x1, s4, x4, s3, s5, hj0]; first | (rename ∀ st, Tri _ _ _ st _ → _ => hK; first | (apply hK; clear hK) | (clear hK; rename ∀ st, Tri _ _ _ st _ → _ => hK; first | (apply hK; clear hK) | (clear hK; rename ∀ st, Tri _ _ _ st _ → _ => hK; first | (apply hK; clear hK) | (clear hK; rename ∀ st, Tri _ _ _ st _ → _ => hK; first | (apply hK; clear hK) | (clear hK; rename ∀ st, Tri _ _ _ st _ → _ => hK; first | (apply hK; clear hK) | (clear hK; rename ∀ st, Tri _ _ _ st _ → _ => hK; apply hK; clear hK)))))) | skip)
          | (intro β)
          | (rename ∀ st, Tri _ _ _ st _ → _ => hK; apply hK; clear hK))
        apply fin2
        exact ⟨b1, ⟨rfl, by simp [upd, s1], by simpa using x1⟩, by simp [upd, s3], fun k hk hki h => hno k hk (by omega) hki h.2⟩
      obtain ⟨j, rfl⟩ := Int.eq_ofNat_of_zero_le hj0
      have hjl : j < r.atts.length := by omega
      have hnw : IntKind.i64.wrap ((j : Int) - 1) = (j : Int) - 1 := wrap_i64 (by omega) (by omega)
      cases c3 : (r.atts[j].slot == r.atts[i].slot)
      case false =>
        repeat (first
          | (refine Tri.seq fun K hK => ?_)
          | (refine Tri.region ?_; simp [upd, hn, s1, x1, s4, x4, s3, s5, hj0, hjl, c3])
          | (refine Tri.draw (by kernel_rfl) (by decide +kernel) ?_; simp [upd, hn, s1, x1, s4, x4, s3, s5, hj0, hjl, c3])
          | (refine Tri.cond_true ?_ ?_; (focus simp [upd, hn, s1, x1, s4, x4, s3, s5, hj0, hjl, c3]; done))
          | (refine Tri.cond_false ?_ ?_; (focus simp [upd, hn, s1, x1, s4, x4, s3, s5, hj0, hjl, c3]; done))
          | (refine Tri.skip ?_; simp only [thenS, blockS])
          | (refine Tri.block_seq ?_)
          | (refine Tri.block_region ?_)
          | (refine Tri.block_cond ?_)
          | (refine Tri.exit ?_; simp [upd, hn, s1, x1, s4, x4, s3, s5, hj0, hjl, c3]; first | (rename ∀ st, Tri _ _ _ st _ → _ => hK; first | (apply hK; clear hK) | (clear hK; rename ∀ st, Tri _ _ _ st _ → _ => hK; first | (apply hK; clear hK) | (clear hK; rename ∀ st, Tri _ _ _ st _ → _ => hK; first | (apply hK; clear hK) | (clear hK; rename ∀ st, Tri _ _ _ st _ → _ => hK; first | (apply hK; clear hK) | (clear hK; rename ∀ st, Tri _ _ _ st _ → _ => hK; first | (apply hK; clear hK) | (clear hK; rename ∀ st, Tri _ _ _ st _ → _ => hK; apply hK; clear hK)))))) | skip)
          | (intro β)
          | (rename ∀ st, Tri _ _ _ st _ → _ => hK; apply hK; clear hK))
        apply fin2
        refine ⟨b1, ⟨rfl, by simp [upd, s1], by simpa using x1⟩, by simp [upd, s3], fun k hk hki h => ?_⟩
        rcases Nat.lt_or_ge j k with h' | h'
        · exact hno k hk (by omega) hki h.2
        · have h1 : r.atts[j].slot ≤ r.atts[i].slot := ltA_slot (hlt j hjl (by omega))
          have h2 : r.atts[k].slot ≤ r.atts[j].slot := by
            rcases Nat.lt_or_eq_of_le h' with h'' | rfl
            · exact ltA_slot (hP.2 k j hk hjl h'' (by omega)).1
            · exact Int.le_refl _
          simp only [beq_eq_false_iff_ne, ne_eq] at c3
          omega
      cases c4 : (r.atts[j].frm == r.atts[i].frm)
      case true =>
        rw [bad_pair i j hi (by omega) (fun h => h.2 ⟨by simpa using c3, by simpa using c4⟩)]
        repeat (first
          | (refine Tri.seq fun K hK => ?_)
          | (refine Tri.region ?_; simp [upd, hn, s1, x1, s4, x4, s3, s5, hj0, hjl, c3, c4])
          | (refine Tri.draw (by kernel_rfl) (by decide +kernel) ?_; simp [upd, hn, s1, x1, s4, x4, s3, s5, hj0, hjl, c3, c4])
          | (refine Tri.cond_true ?_ ?_; (focus simp [upd, hn, s1, x1, s4, x4, s3, s5, hj0, hjl, c3, c4]; done))
          | (refine Tri.cond_false ?_ ?_; (focus simp [upd, hn, s1, x1, s4, x4, s3, s5, hj0, hjl, c3, c4]; done))
          | (refine Tri.skip ?_; simp only [thenS, blockS])
          | (refine Tri.block_seq ?_)
          | (refine Tri.block_region ?_)
          | (refine Tri.block_cond ?_)
          | (refine Tri.exit ?_; simp [upd, hn, s1, x1, s4, x4, s3, s5, hj0, hjl, c3, c4]; first | (rename ∀ st, Tri _ _ _ st _ → _ => hK; first | (apply hK; clear hK) | (clear hK; rename ∀ st, Tri _ _ _ st _ → _ => hK; first | (apply hK; clear hK) | (clear hK; rename ∀ st, Tri _ _ _ st _ → _ => hK; first | (apply hK; clear hK) | (clear hK; rename ∀ st, Tri _ _ _ st _ → _ => hK; first | (apply hK; clear hK) | (clear hK; rename ∀ st, Tri _ _ _ st _ → _ => hK; first | (apply hK; clear hK) | (clear hK; rename ∀ st, Tri _ _ _ st _ → _ => hK; apply hK; clear hK)))))) | skip)
          | (intro β)
          | (rename ∀ st, Tri _ _ _ st _ → _ => hK; apply hK; clear hK))
        refine Tri.ret ⟨_, rfl, ?_⟩
        simp [upd]
        exact Wk.refl _
      repeat (first
        | (refine Tri.seq fun K hK => ?_)
        | (refine Tri.region ?_; simp [upd, hn, s1, x1, s4, x4, s3, s5, hj0, hjl, c3, c4, hnw])
        | (refine Tri.draw (by kernel_rfl) (by decide +kernel) ?_; simp [upd, hn, s1, x1, s4, x4, s3, s5, hj0, hjl, c3, c4, hnw])
        | (refine Tri.cond_true ?_ ?_; (focus simp [upd, hn, s1, x1, s4, x4, s3, s5, hj0, hjl, c3, c4, hnw]; done))
        | (refine Tri.cond_false ?_ ?_; (focus simp [upd, hn, s1, x1, s4, x4, s3, s5, hj0, hjl, c3, c4, hnw]; done))
        | (refine Tri.skip ?_; simp only [thenS, blockS])
        | (refine Tri.block_seq ?_)
        | (refine Tri.block_region ?_)
        | (refine Tri.block_cond ?_)
        | (refine Tri.exit ?_; simp [upd, hn, s1, x1, s4, x4, s3, s5, hj0, hjl, c3, c4, hnw]; first | (rename ∀ st, Tri _ _ _ st _ → _ => hK; first | (apply hK; clear hK) | (clear hK; rename ∀ st, Tri _ _ _ st _ → _ => hK; first | (apply hK; clear hK) | (clear hK; rename ∀ st, Tri _ _ _ st _ → _ => hK; first | (apply hK; clear hK) | (clear hK; rename ∀ st, Tri _ _ _ st _ → _ => hK; first | (apply hK; clear hK) | (clear hK; rename ∀ st, Tri _ _ _ st _ → _ => hK; first | (apply hK; clear hK) | (clear hK; rename ∀ st, Tri _ _ _ st _ → _ => hK; apply hK; clear hK)))))) | skip)
        | (intro β)
        | (rename ∀ st, Tri _ _ _ st _ → _ => hK; apply hK; clear hK))
      refine ⟨m2 - 1, by omega, b1, (j : Int) - 1, ⟨rfl, by simp [upd, s1], by simpa using x1⟩, by simp [upd, s4], by simpa using x4, by simp [upd, s3], by simp [upd], by omega, by omega, fun k hk h1 h2 => ?_⟩
      by_cases hkj : k = j
      · subst hkj; simpa using c4
      · exact hno k hk (by omega) h2
end Go.Proofs.Ytcohdlochpjnjaa
end
section
open Go Go.Vm
namespace Go.Proofs.Ytcohdlochpjnjaa
set_option maxRecDepth 100000
set_option maxHeartbeats 4000000
set_option linter.unusedSimpArgs false
theorem bytesOf_append (a b : List Int) : bytesOf a ++ bytesOf b = bytesOf (a ++ b) := by
  rw [bytesOf_ba, bytesOf_ba, bytesOf_ba, List.map_append]
  apply ByteArray.ext
  simp [ba]
theorem bytesOf_size (a : List Int) : (bytesOf a).size = a.length := by rw [bytesOf_ba, ba_size, List.length_map]
theorem i64_max : IntKind.i64.max = 9223372036854775807 := by decide
theorem varI_lt {n : Int} (h : n < 128) : varI n = [IntKind.u8.wrap n] := by rw [varI, dif_neg (by omega)]
theorem varI_ge (n : Nat) (h : ¬ n < 128) : varI (n : Int) = IntKind.u8.wrap ((n % 128 : Nat) + 128 : Int) :: varI ((n / 128 : Nat) : Int) := by
  rw [varI, dif_pos (by omega)]
  have e : (n : Int).fdiv 128 = ((n / 128 : Nat) : Int) := by rw [Int.fdiv_eq_ediv_of_nonneg _ (by omega)]; omega
  have e2 := or128 ⟨n % 256, Nat.mod_lt _ (by omega)⟩
  simp only at e2
  rw [e, u8w, e2]
  congr 1
  have : ((n % 128 : Nat) + 128 : Int) = ((n % 128 + 128 : Nat) : Int) := by omega
  rw [this, u8w]
  congr 1
  omega
attribute [local irreducible] Tri Does DoesB Rounds check sameB bytesOf
theorem vary_does (n : Nat) (hn : n < 4611686018427387904) : Does Try.prog 43 [.c (.int .i64 (n : Int))] (.c (.str (bytesOf (varI (n : Int))))) := by
  induction n using Nat.strongRecOn with
  | ind n ih =>
    refine Does.of_body Try.func43 rfl (by kernel_rfl) rfl rfl (by simp) ?_
    intro E
    by_cases h : n < 128
    · have h' : (n : Int) < 128 := by omega
      rw [varI_lt h']
      repeat (first
        | (refine Tri.seq fun K hK => ?_)
        | (refine Tri.region ?_; simp [upd, h'])
        | (refine Tri.draw (by kernel_rfl) (by decide +kernel) ?_; simp [upd, h'])
        | (refine Tri.cond_true ?_ ?_; (focus simp [upd, h']; done))
        | (refine Tri.cond_false ?_ ?_; (focus simp [upd, h']; done))
        | (refine Tri.skip ?_; simp only [thenS, blockS])
        | (refine Tri.block_seq ?_)
        | (refine Tri.block_region ?_)
        | (refine Tri.block_cond ?_)
        | (refine Tri.exit ?_; simp [upd, h']; first | (rename ∀ st, Tri _ _ _ st _ → _ => hK; first | (apply hK; clear hK) | (clear hK; rename ∀ st, Tri _ _ _ st _ → _ => hK; first | (apply hK; clear hK) | (clear hK; rename ∀ st, Tri _ _ _ st _ → _ => hK; first | (apply hK; clear hK) | (clear hK; rename ∀ st, Tri _ _ _ st _ → _ => hK; first | (apply hK; clear hK) | (clear hK; rename ∀ st, Tri _ _ _ st _ → _ => hK; first | (apply hK; clear hK) | (clear hK; rename ∀ st, Tri _ _ _ st _ → _ => hK; apply hK; clear hK)))))) | skip)
        | (intro β)
        | (rename ∀ st, Tri _ _ _ st _ → _ => hK; apply hK; clear hK))
      refine Tri.ret ⟨_, rfl, ?_⟩
      simp [upd]
      exact Wk.refl _
    have h' : ¬ (n : Int) < 128 := by omega
    have l := ih (n / 128) (by omega) (by omega)
    have hr : (n : Int).tmod 128 = ((n % 128 : Nat) : Int) := by rw [Int.tmod_eq_emod_of_nonneg (by omega)]; omega
    have hq : IntKind.i64.wrap ((n : Int).tdiv 128) = ((n / 128 : Nat) : Int) := by rw [Int.tdiv_eq_ediv_of_nonneg (by omega), wrap_i64 (by omega) (by omega)]; omega
    have hq2 : IntKind.i64.wrap ((n : Int) / 128) = ((n / 128 : Nat) : Int) := by rw [wrap_i64 (by omega) (by omega)]; omega
    have hw : IntKind.i64.wrap (((n % 128 : Nat) : Int) + 128) = ((n % 128 : Nat) : Int) + 128 := wrap_i64 (by omega) (by omega)
    have hv := varI_len (n / 128)
    have hE : bytesOf (varI (n : Int)) = bytesOf [IntKind.u8.wrap (((n % 128 : Nat) : Int) + 128)] ++ bytesOf (varI ((n / 128 : Nat) : Int)) := by
      rw [bytesOf_append, varI_ge n h]; rfl
    rw [hE]
    have hz : ¬ ((9223372036854775807 : Int) < ((bytesOf [IntKind.u8.wrap (((n % 128 : Nat) : Int) + 128)]).size : Int) + ((bytesOf (varI ((n / 128 : Nat) : Int))).size : Int)) := by
      rw [bytesOf_size, bytesOf_size]
      simp only [List.length_singleton]
      omega
    generalize ((n % 128 : Nat) : Int) = m at *
    generalize ((n / 128 : Nat) : Int) = q at *
    repeat (first
      | (refine Tri.seq fun K hK => ?_)
      | (refine Tri.region ?_; simp [upd, h', hr, hq, hq2, hw, hz])
      | (refine Tri.draw (by kernel_rfl) (by decide +kernel) ?_; simp [upd, h', hr, hq, hq2, hw, hz])
      | (refine Tri.cond_true ?_ ?_; (focus simp [upd, h', hr, hq, hq2, hw, hz]; done))
      | (refine Tri.cond_false ?_ ?_; (focus simp [upd, h', hr, hq, hq2, hw, hz]; done))
      | (refine Tri.skip ?_; simp only [thenS, blockS])
      | (refine Tri.block_seq ?_)
      | (refine Tri.block_region ?_)
      | (refine Tri.block_cond ?_)
      | ((with_reducible refine CallK.pure (l) (Wks.refl _) ?_); simp [upd, h', hr, hq, hq2, hw, hz])
      | (refine Tri.exit ?_; simp [upd, h', hr, hq, hq2, hw, hz]; first | (rename ∀ st, Tri _ _ _ st _ → _ => hK; first | (apply hK; clear hK) | (clear hK; rename ∀ st, Tri _ _ _ st _ → _ => hK; first | (apply hK; clear hK) | (clear hK; rename ∀ st, Tri _ _ _ st _ → _ => hK; first | (apply hK; clear hK) | (clear hK; rename ∀ st, Tri _ _ _ st _ → _ => hK; first | (apply hK; clear hK) | (clear hK; rename ∀ st, Tri _ _ _ st _ → _ => hK; first | (apply hK; clear hK) | (clear hK; rename ∀ st, Tri _ _ _ st _ → _ => hK; apply hK; clear hK)))))) | skip)
      | (intro β)
      | (rename ∀ st, Tri _ _ _ st _ → _ => hK; apply hK; clear hK))
    refine Tri.ret ⟨_, rfl, ?_⟩
    simp [upd]
    exact Wk.refl _
theorem vary_i (z : Int) (h : Sm z) : Does Try.prog 43 [.c (.int .i64 z)] (.c (.str (bytesOf (varI z)))) := by
  obtain ⟨h0, h1⟩ := h
  obtain ⟨k, rfl⟩ := Int.eq_ofNat_of_zero_le h0
  exact vary_does k (by omega)
structure EI (r : Rec) (st : St) (b1 : Nat) (cur : List Int) (t : Int) : Prop where
  hn : st.n = 115
  s1 : st.sl 1 = .c (.box 1 b1 0)
  x1 : st.bx 1 = some (b1, [.int .i64 r.slots, .sl r.an 8 none (r.atts.map attC), .sl r.dn 3 none (r.dels.map delC)])
  s4 : st.sl 4 = .c (.str (bytesOf cur))
  s5 : st.sl 5 = .c (.int .i64 t)
def RInv1 (r : Rec) (m : Nat) (st : St) : Prop := ∃ b1 cur t i, EI r st b1 cur t ∧ m + i = r.atts.length ∧ st.sl 6 = .c (.int .i64 (i : Nat)) ∧ cur ++ (attsEnc t (r.atts.drop i) ++ restE r) = encB r ∧ 0 ≤ t ∧ ∀ a ∈ r.atts.drop i, t ≤ a.slot
def REnd1 (r : Rec) (st : St) : Prop := ∃ b1 cur t, EI r st b1 cur t ∧ cur ++ restE r = encB r
def RInv2 (r : Rec) (m : Nat) (st : St) : Prop := ∃ b1 cur t i, EI r st b1 cur t ∧ m + i = r.dels.length ∧ st.sl 9 = .c (.int .i64 (i : Nat)) ∧ cur ++ delsEnc t (r.dels.drop i) = encB r ∧ 0 ≤ t ∧ ∀ a ∈ r.dels.drop i, t ≤ a.slot
theorem encR_does (r : Rec) : Does Try.prog 17 [.agg (recC r)] (if check r = 0 then .tup [.c (.str (bytesOf (encB r))), .c (.int .i64 0)] else .tup [.c (.str ⟨#[]⟩), .c (.int .i64 (check r))]) := by
  refine Does.of_body Try.func17 rfl (by kernel_rfl) rfl rfl (by simp) ?_
  intro E
  have hck := checkR_does r
  cases hc : (check r == 0)
  case false =>
    have hc0 : ¬ check r = 0 := by simpa using hc
    have hc1 : check r = 1 := not_order fun h => hc0 ((check_iff r).2 h)
    rw [if_neg hc0, hc1]
    rw [hc1] at hck
    simp only [recC] at hck ⊢
    repeat (first
      | (refine Tri.seq fun K hK => ?_)
      | (refine Tri.region ?_; simp [upd])
      | (refine Tri.draw (by kernel_rfl) (by decide +kernel) ?_; simp [upd])
      | (refine Tri.cond_true ?_ ?_; (focus simp [upd]; done))
      | (refine Tri.cond_false ?_ ?_; (focus simp [upd]; done))
      | (refine Tri.skip ?_; simp only [thenS, blockS])
      | (refine Tri.block_seq ?_)
      | (refine Tri.block_region ?_)
      | (refine Tri.block_cond ?_)
      | ((with_reducible refine CallK.pure (hck) (Wks.refl _) ?_); simp [upd])
      | (refine Tri.exit ?_; simp [upd]; first | (rename ∀ st, Tri _ _ _ st _ → _ => hK; first | (apply hK; clear hK) | (clear hK; rename ∀ st, Tri _ _ _ st _ → _ => hK; first | (apply hK; clear hK) | (clear hK; rename ∀ st, Tri _ _ _ st _ → _ => hK; first | (apply hK; clear hK) | (clear hK; rename ∀ st, Tri _ _ _ st _ → _ => hK; first | (apply hK; clear hK) | (clear hK; rename ∀ st, Tri _ _ _ st _ → _ => hK; first | (apply hK; clear hK) | (clear hK; rename ∀ st, Tri _ _ _ st _ → _ => hK; apply hK; clear hK)))))) | skip)
      | (intro β)
      | (rename ∀ st, Tri _ _ _ st _ → _ => hK; apply hK; clear hK))
    refine Tri.ret ⟨_, rfl, ?_⟩
    simp [upd]
    exact Wk.refl _
  have hc0 : check r = 0 := by simpa using hc
  rw [if_pos hc0]
  rw [hc0] at hck
  have ho := (check_iff r).1 hc0
  have hlen := enc_len ho
  have hal := ho.al
  have hdl := ho.dl
  simp only [recC] at hck ⊢
  have v0 := vary_i r.slots ⟨ho.s0, by have := ho.s1; omega⟩
  have v1 := vary_i (r.atts.length : Int) ⟨by omega, by have := ho.al; omega⟩
  have hE : [r.slots, (r.atts.length : Int)].flatMap varI ++ (attsEnc 0 r.atts ++ restE r) = encB r := rfl
  have z1 : ¬ (9223372036854775807 : Int) < ((varI r.slots).length : Int) + ((varI (r.atts.length : Int)).length : Int) := by
    rw [← hE] at hlen
    simp only [List.flatMap_cons, List.flatMap_nil, List.length_append] at hlen
    omega
  repeat (first
    | (refine Tri.seq fun K hK => ?_)
    | (refine Tri.region ?_; simp [upd, bytesOf_append, bytesOf_size, z1])
    | (refine Tri.draw (by kernel_rfl) (by decide +kernel) ?_; simp [upd, bytesOf_append, bytesOf_size, z1])
    | (refine Tri.cond_true ?_ ?_; (focus simp [upd, bytesOf_append, bytesOf_size, z1]; done))
    | (refine Tri.cond_false ?_ ?_; (focus simp [upd, bytesOf_append, bytesOf_size, z1]; done))
    | (refine Tri.skip ?_; simp only [thenS, blockS])
    | (refine Tri.block_seq ?_)
    | (refine Tri.block_region ?_)
    | (refine Tri.block_cond ?_)
    | ((with_reducible refine CallK.pure (hck) (Wks.refl _) ?_); simp [upd, bytesOf_append, bytesOf_size, z1])
    | ((with_reducible refine CallK.pure (v0) (Wks.refl _) ?_); simp [upd, bytesOf_append, bytesOf_size, z1])
    | ((with_reducible refine CallK.pure (v1) (Wks.refl _) ?_); simp [upd, bytesOf_append, bytesOf_size, z1])
    | (refine Tri.exit ?_; simp [upd, bytesOf_append, bytesOf_size, z1]; first | (rename ∀ st, Tri _ _ _ st _ → _ => hK; first | (apply hK; clear hK) | (clear hK; rename ∀ st, Tri _ _ _ st _ → _ => hK; first | (apply hK; clear hK) | (clear hK; rename ∀ st, Tri _ _ _ st _ → _ => hK; first | (apply hK; clear hK) | (clear hK; rename ∀ st, Tri _ _ _ st _ → _ => hK; first | (apply hK; clear hK) | (clear hK; rename ∀ st, Tri _ _ _ st _ → _ => hK; first | (apply hK; clear hK) | (clear hK; rename ∀ st, Tri _ _ _ st _ → _ => hK; apply hK; clear hK)))))) | skip)
    | (intro β)
    | (rename ∀ st, Tri _ _ _ st _ → _ => hK; apply hK; clear hK))
  rename ∀ st, Tri _ _ _ st _ → _ => hK
  have fin := fun (st : St) (h : REnd1 r st) => hK st ?tail
  case tail =>
    obtain ⟨b1, cur, t, ⟨hn, s1, x1, s4, s5⟩, hcur⟩ := h
    clear hK
    have vd := vary_i (r.dels.length : Int) ⟨by omega, by have := ho.dl; omega⟩
    unfold restE at hcur
    have hL := hlen
    rw [← hcur] at hL
    simp only [List.flatMap_cons, List.flatMap_nil, List.append_nil, List.length_append] at hL hcur
    have zd : ¬ (9223372036854775807 : Int) < (cur.length : Int) + ((varI (r.dels.length : Int)).length : Int) := by omega
    repeat (first
      | (refine Tri.seq fun K hK => ?_)
      | (refine Tri.region ?_; simp [upd, hn, s1, x1, s4, s5, bytesOf_append, bytesOf_size, zd])
      | (refine Tri.draw (by kernel_rfl) (by decide +kernel) ?_; simp [upd, hn, s1, x1, s4, s5, bytesOf_append, bytesOf_size, zd])
      | (refine Tri.cond_true ?_ ?_; (focus simp [upd, hn, s1, x1, s4, s5, bytesOf_append, bytesOf_size, zd]; done))
      | (refine Tri.cond_false ?_ ?_; (focus simp [upd, hn, s1, x1, s4, s5, bytesOf_append, bytesOf_size, zd]; done))
      | (refine Tri.skip ?_; simp only [thenS, blockS])
      | (refine Tri.block_seq ?_)
      | (refine Tri.block_region ?_)
      | (refine Tri.block_cond ?_)
      | ((with_reducible refine CallK.pure (vd) (Wks.refl _) ?_); simp [upd, hn, s1, x1, s4, s5, bytesOf_append, bytesOf_size, zd])
      | (refine Tri.exit ?_; simp [upd, hn, s1, x1, s4, s5, bytesOf_append, bytesOf_size, zd]; first | (rename ∀ st, Tri _ _ _ st _ → _ => hK; first | (apply hK; clear hK) | (clear hK; rename ∀ st, Tri _ _ _ st _ → _ => hK; first | (apply hK; clear hK) | (clear hK; rename ∀ st, Tri _ _ _ st _ → _ => hK; first | (apply hK; clear hK) | (clear hK; rename ∀ st, Tri _ _ _ st _ → _ => hK; first | (apply hK; clear hK) | (clear hK; rename ∀ st, Tri _ _ _ st _ → _ => hK; first | (apply hK; clear hK) | (clear hK; rename ∀ st, Tri _ _ _ st _ → _ => hK; apply hK; clear hK)))))) | skip)
      | (intro β)
      | (rename ∀ st, Tri _ _ _ st _ → _ => hK; apply hK; clear hK))
    rename ∀ st, Tri _ _ _ st _ → _ => hK
    have fin3 := fun (st : St) (h : st.n = 115 ∧ st.sl 4 = .c (.str (bytesOf (encB r)))) => hK st ?tail
    case tail =>
      obtain ⟨hn, s4⟩ := h
      repeat (first
        | (refine Tri.seq fun K hK => ?_)
        | (refine Tri.region ?_; simp [upd, hn, s4])
        | (refine Tri.draw (by kernel_rfl) (by decide +kernel) ?_; simp [upd, hn, s4])
        | (refine Tri.cond_true ?_ ?_; (focus simp [upd, hn, s4]; done))
        | (refine Tri.cond_false ?_ ?_; (focus simp [upd, hn, s4]; done))
        | (refine Tri.skip ?_; simp only [thenS, blockS])
        | (refine Tri.block_seq ?_)
        | (refine Tri.block_region ?_)
        | (refine Tri.block_cond ?_)
        | (refine Tri.exit ?_; simp [upd, hn, s4]; first | (rename ∀ st, Tri _ _ _ st _ → _ => hK; first | (apply hK; clear hK) | (clear hK; rename ∀ st, Tri _ _ _ st _ → _ => hK; first | (apply hK; clear hK) | (clear hK; rename ∀ st, Tri _ _ _ st _ → _ => hK; first | (apply hK; clear hK) | (clear hK; rename ∀ st, Tri _ _ _ st _ → _ => hK; first | (apply hK; clear hK) | (clear hK; rename ∀ st, Tri _ _ _ st _ → _ => hK; first | (apply hK; clear hK) | (clear hK; rename ∀ st, Tri _ _ _ st _ → _ => hK; apply hK; clear hK)))))) | skip)
        | (intro β)
        | (rename ∀ st, Tri _ _ _ st _ → _ => hK; apply hK; clear hK))
      refine Tri.ret ⟨_, rfl, ?_⟩
      simp [upd]
      exact Wk.refl _
    clear hK
    refine Tri.block (Tri.loop (RInv2 r) r.dels.length ?_ ?_)
    · exact ⟨b1, cur ++ varI (r.dels.length : Int), 0, 0, ⟨rfl, by simp [upd, s1], by simpa using x1, by simp [upd], by simp [upd]⟩, rfl, by simp [upd], by rw [← hcur]; simp [List.append_assoc], by omega, fun a ha => (ho.dels.1 a (by simpa using ha)).2.2.2.2.1⟩
    · clear hn s1 x1 s4 s5 hcur zd hL
      clear cur
      rintro m st ⟨b1, cur, t, i, ⟨hn, s1, x1, s4, s5⟩, hm, s9, hcur, ht0, hts⟩
      by_cases hi : i < r.dels.length
      case neg =>
        rw [List.drop_of_length_le (by omega)] at hcur
        simp only [delsEnc, List.append_nil] at hcur
        subst hcur
        repeat (first
          | (refine Tri.seq fun K hK => ?_)
          | (refine Tri.region ?_; simp [upd, hn, s1, x1, s4, s5, s9, hi])
          | (refine Tri.draw (by kernel_rfl) (by decide +kernel) ?_; simp [upd, hn, s1, x1, s4, s5, s9, hi])
          | (refine Tri.cond_true ?_ ?_; (focus simp [upd, hn, s1, x1, s4, s5, s9, hi]; done))
          | (refine Tri.cond_false ?_ ?_; (focus simp [upd, hn, s1, x1, s4, s5, s9, hi]; done))
          | (refine Tri.skip ?_; simp only [thenS, blockS])
          | (refine Tri.block_seq ?_)
          | (refine Tri.block_region ?_)
          | (refine Tri.block_cond ?_)
          | (refine Tri.exit ?_; simp [upd, hn, s1, x1, s4, s5, s9, hi]; first | (rename ∀ st, Tri _ _ _ st _ → _ => hK; first | (apply hK; clear hK) | (clear hK; rename ∀ st, Tri _ _ _ st _ → _ => hK; first | (apply hK; clear hK) | (clear hK; rename ∀ st, Tri _ _ _ st _ → _ => hK; first | (apply hK; clear hK) | (clear hK; rename ∀ st, Tri _ _ _ st _ → _ => hK; first | (apply hK; clear hK) | (clear hK; rename ∀ st, Tri _ _ _ st _ → _ => hK; first | (apply hK; clear hK) | (clear hK; rename ∀ st, Tri _ _ _ st _ → _ => hK; apply hK; clear hK)))))) | skip)
          | (intro β)
          | (rename ∀ st, Tri _ _ _ st _ → _ => hK; apply hK; clear hK))
        apply fin3
        exact ⟨rfl, by simp [upd, s4]⟩
      have hd : r.dels.drop i = r.dels[i] :: r.dels.drop (i + 1) := List.drop_eq_getElem_cons hi
      rw [hd] at hcur hts
      obtain ⟨a0, a1, a2, a3, a4, a5⟩ := ho.dels.1 _ (List.getElem_mem hi)
      have hs1 := ho.s1
      have hta := hts _ (List.mem_cons_self ..)
      have hwt : IntKind.i64.wrap (r.dels[i].slot - t) = r.dels[i].slot - t := wrap_i64 (by omega) (by omega)
      have hpw := ho.dels.2
      rw [← List.take_append_drop i r.dels, hd] at hpw
      have hpw := List.pairwise_cons.1 (List.pairwise_append.1 hpw).2.1
      have hts' : ∀ a ∈ r.dels.drop (i + 1), r.dels[i].slot ≤ a.slot := fun a ha => by have := hpw.1 a ha; unfold ltD at this; omega
      have hfl : (delNs t r.dels[i]).flatMap varI = varI (r.dels[i].slot - t) ++ (varI r.dels[i].flow ++ varI r.dels[i].frame) := by
        simp [delNs, i64w, hwt]
      rw [delsEnc, hfl] at hcur
      have hL := hlen
      rw [← hcur] at hL
      have u0 := vary_i (r.dels[i].slot - t) ⟨by omega, by omega⟩
      have u1 := vary_i (r.dels[i].flow) ⟨by omega, by omega⟩
      have u2 := vary_i (r.dels[i].frame) ⟨by omega, by omega⟩
      generalize varI (r.dels[i].slot - t) = w0 at *
      generalize varI (r.dels[i].flow) = w1 at *
      generalize varI (r.dels[i].frame) = w2 at *
      simp only [List.length_append] at hL
      have z1 : ¬ (9223372036854775807 : Int) < ((w0.length : Int) + (w1.length : Int)) := by omega
      have z2 : ¬ (9223372036854775807 : Int) < (((w0.length : Int) + (w1.length : Int)) + (w2.length : Int)) := by omega
      have z8 : ¬ (9223372036854775807 : Int) < (cur.length : Int) + ((w0.length : Int) + ((w1.length : Int) + (w2.length : Int))) := by omega
      have hw1 : IntKind.i64.wrap ((i : Int) + 1) = (i : Int) + 1 := wrap_i64 (by omega) (by omega)
      repeat (first
        | (refine Tri.seq fun K hK => ?_)
        | (refine Tri.region ?_; simp [upd, hn, s1, x1, s4, s5, s9, hi, hwt, hw1, bytesOf_append, bytesOf_size, z1, z2, z8])
        | (refine Tri.draw (by kernel_rfl) (by decide +kernel) ?_; simp [upd, hn, s1, x1, s4, s5, s9, hi, hwt, hw1, bytesOf_append, bytesOf_size, z1, z2, z8])
        | (refine Tri.cond_true ?_ ?_; (focus simp [upd, hn, s1, x1, s4, s5, s9, hi, hwt, hw1, bytesOf_append, bytesOf_size, z1, z2, z8]; done))
        | (refine Tri.cond_false ?_ ?_; (focus simp [upd, hn, s1, x1, s4, s5, s9, hi, hwt, hw1, bytesOf_append, bytesOf_size, z1, z2, z8]; done))
        | (refine Tri.skip ?_; simp only [thenS, blockS])
        | (refine Tri.block_seq ?_)
        | (refine Tri.block_region ?_)
        | (refine Tri.block_cond ?_)
        | ((with_reducible refine CallK.pure (u0) (Wks.refl _) ?_); simp [upd, hn, s1, x1, s4, s5, s9, hi, hwt, hw1, bytesOf_append, bytesOf_size, z1, z2, z8])
        | ((with_reducible refine CallK.pure (u1) (Wks.refl _) ?_); simp [upd, hn, s1, x1, s4, s5, s9, hi, hwt, hw1, bytesOf_append, bytesOf_size, z1, z2, z8])
        | ((with_reducible refine CallK.pure (u2) (Wks.refl _) ?_); simp [upd, hn, s1, x1, s4, s5, s9, hi, hwt, hw1, bytesOf_append, bytesOf_size, z1, z2, z8])
        | (refine Tri.exit ?_; simp [upd, hn, s1, x1, s4, s5, s9, hi, hwt, hw1, bytesOf_append, bytesOf_size, z1, z2, z8]; first | (rename ∀ st, Tri _ _ _ st _ → _ => hK; first | (apply hK; clear hK) | (clear hK; rename ∀ st, Tri _ _ _ st _ → _ => hK; first | (apply hK; clear hK) | (clear hK; rename ∀ st, Tri _ _ _ st _ → _ => hK; first | (apply hK; clear hK) | (clear hK; rename ∀ st, Tri _ _ _ st _ → _ => hK; first | (apply hK; clear hK) | (clear hK; rename ∀ st, Tri _ _ _ st _ → _ => hK; first | (apply hK; clear hK) | (clear hK; rename ∀ st, Tri _ _ _ st _ → _ => hK; apply hK; clear hK)))))) | skip)
        | (intro β)
        | (rename ∀ st, Tri _ _ _ st _ → _ => hK; apply hK; clear hK))
      exact ⟨m - 1, by omega, b1, cur ++ (w0 ++ (w1 ++ w2)), r.dels[i].slot, i + 1, ⟨rfl, by simp [upd, s1], by simpa using x1, by simp [upd], by simp [upd]⟩, by omega, by simp [upd], by rw [← hcur]; simp [List.append_assoc], a4, hts'⟩
  clear hK
  refine Tri.block (Tri.loop (RInv1 r) r.atts.length ?_ ?_)
  · exact ⟨_, [r.slots, (r.atts.length : Int)].flatMap varI, 0, 0, ⟨rfl, by simp [upd] <;> exact rfl, by simp [upd] <;> exact rfl, by simp [upd], by simp [upd]⟩, rfl, by simp [upd], hE, by omega, fun a ha => (attOk_sm (ho.atts.1 a (by simpa using ha)) ho.s1).1⟩
  · rintro m st ⟨b1, cur, t, i, ⟨hn, s1, x1, s4, s5⟩, hm, s6, hcur, ht0, hts⟩
    by_cases hi : i < r.atts.length
    case neg =>
      rw [List.drop_of_length_le (by omega)] at hcur
      repeat (first
        | (refine Tri.seq fun K hK => ?_)
        | (refine Tri.region ?_; simp [upd, hn, s1, x1, s4, s5, s6, hi])
        | (refine Tri.draw (by kernel_rfl) (by decide +kernel) ?_; simp [upd, hn, s1, x1, s4, s5, s6, hi])
        | (refine Tri.cond_true ?_ ?_; (focus simp [upd, hn, s1, x1, s4, s5, s6, hi]; done))
        | (refine Tri.cond_false ?_ ?_; (focus simp [upd, hn, s1, x1, s4, s5, s6, hi]; done))
        | (refine Tri.skip ?_; simp only [thenS, blockS])
        | (refine Tri.block_seq ?_)
        | (refine Tri.block_region ?_)
        | (refine Tri.block_cond ?_)
        | (refine Tri.exit ?_; simp [upd, hn, s1, x1, s4, s5, s6, hi]; first | (rename ∀ st, Tri _ _ _ st _ → _ => hK; first | (apply hK; clear hK) | (clear hK; rename ∀ st, Tri _ _ _ st _ → _ => hK; first | (apply hK; clear hK) | (clear hK; rename ∀ st, Tri _ _ _ st _ → _ => hK; first | (apply hK; clear hK) | (clear hK; rename ∀ st, Tri _ _ _ st _ → _ => hK; first | (apply hK; clear hK) | (clear hK; rename ∀ st, Tri _ _ _ st _ → _ => hK; first | (apply hK; clear hK) | (clear hK; rename ∀ st, Tri _ _ _ st _ → _ => hK; apply hK; clear hK)))))) | skip)
        | (intro β)
        | (rename ∀ st, Tri _ _ _ st _ → _ => hK; apply hK; clear hK))
      apply fin
      exact ⟨b1, cur, t, ⟨rfl, by simp [upd, s1], by simpa using x1, by simp [upd, s4], by simp [upd, s5]⟩, hcur⟩
    have hd : r.atts.drop i = r.atts[i] :: r.atts.drop (i + 1) := List.drop_eq_getElem_cons hi
    rw [hd] at hcur hts
    obtain ⟨a0, a1, m1, m2, m3, m4, m5, m6, m7⟩ := attOk_sm (ho.atts.1 _ (List.getElem_mem hi)) ho.s1
    have hs1 := ho.s1
    have hta := hts _ (List.mem_cons_self ..)
    have hwt : IntKind.i64.wrap (r.atts[i].slot - t) = r.atts[i].slot - t := wrap_i64 (by omega) (by omega)
    have m0 : Sm (r.atts[i].slot - t) := ⟨by omega, by omega⟩
    have hpw := ho.atts.2
    rw [← List.take_append_drop i r.atts, hd] at hpw
    have hpw := List.pairwise_cons.1 (List.pairwise_append.1 hpw).2.1
    have hts' : ∀ a ∈ r.atts.drop (i + 1), r.atts[i].slot ≤ a.slot := fun a ha => ltA_slot (hpw.1 a ha).1
    have hfl : (attNs t r.atts[i]).flatMap varI = varI (r.atts[i].slot - t) ++ (varI r.atts[i].frame ++ (varI r.atts[i].cslot ++ (varI r.atts[i].off ++ (varI r.atts[i].frm ++ (varI r.atts[i].to ++ (varI r.atts[i].flow ++ varI r.atts[i].out)))))) := by
      simp [attNs, i64w, hwt]
    rw [attsEnc, hfl] at hcur
    have hL := hlen
    rw [← hcur] at hL
    have u0 := vary_i (r.atts[i].slot - t) m0
    have u1 := vary_i (r.atts[i].frame) m1
    have u2 := vary_i (r.atts[i].cslot) m2
    have u3 := vary_i (r.atts[i].off) m3
    have u4 := vary_i (r.atts[i].frm) m4
    have u5 := vary_i (r.atts[i].to) m5
    have u6 := vary_i (r.atts[i].flow) m6
    have u7 := vary_i (r.atts[i].out) m7
    generalize varI (r.atts[i].slot - t) = w0 at *
    generalize varI (r.atts[i].frame) = w1 at *
    generalize varI (r.atts[i].cslot) = w2 at *
    generalize varI (r.atts[i].off) = w3 at *
    generalize varI (r.atts[i].frm) = w4 at *
    generalize varI (r.atts[i].to) = w5 at *
    generalize varI (r.atts[i].flow) = w6 at *
    generalize varI (r.atts[i].out) = w7 at *
    simp only [List.length_append] at hL
    have z1 : ¬ (9223372036854775807 : Int) < ((w0.length : Int) + (w1.length : Int)) := by omega
    have z2 : ¬ (9223372036854775807 : Int) < (((w0.length : Int) + (w1.length : Int)) + (w2.length : Int)) := by omega
    have z3 : ¬ (9223372036854775807 : Int) < (((w0.length : Int) + ((w1.length : Int) + (w2.length : Int))) + (w3.length : Int)) := by omega
    have z4 : ¬ (9223372036854775807 : Int) < (((w0.length : Int) + ((w1.length : Int) + ((w2.length : Int) + (w3.length : Int)))) + (w4.length : Int)) := by omega
    have z5 : ¬ (9223372036854775807 : Int) < (((w0.length : Int) + ((w1.length : Int) + ((w2.length : Int) + ((w3.length : Int) + (w4.length : Int))))) + (w5.length : Int)) := by omega
    have z6 : ¬ (9223372036854775807 : Int) < (((w0.length : Int) + ((w1.length : Int) + ((w2.length : Int) + ((w3.length : Int) + ((w4.length : Int) + (w5.length : Int)))))) + (w6.length : Int)) := by omega
    have z7 : ¬ (9223372036854775807 : Int) < (((w0.length : Int) + ((w1.length : Int) + ((w2.length : Int) + ((w3.length : Int) + ((w4.length : Int) + ((w5.length : Int) + (w6.length : Int))))))) + (w7.length : Int)) := by omega
    have z8 : ¬ (9223372036854775807 : Int) < (cur.length : Int) + ((w0.length : Int) + ((w1.length : Int) + ((w2.length : Int) + ((w3.length : Int) + ((w4.length : Int) + ((w5.length : Int) + ((w6.length : Int) + (w7.length : Int)))))))) := by omega
    have hw1 : IntKind.i64.wrap ((i : Int) + 1) = (i : Int) + 1 := wrap_i64 (by omega) (by omega)
    repeat (first
      | (refine Tri.seq fun K hK => ?_)
      | (refine Tri.region ?_; simp [upd, hn, s1, x1, s4, s5, s6, hi, hwt, hw1, bytesOf_append, bytesOf_size, z1, z2, z3, z4, z5, z6, z7, z8])
      | (refine Tri.draw (by kernel_rfl) (by decide +kernel) ?_; simp [upd, hn, s1, x1, s4, s5, s6, hi, hwt, hw1, bytesOf_append, bytesOf_size, z1, z2, z3, z4, z5, z6, z7, z8])
      | (refine Tri.cond_true ?_ ?_; (focus simp [upd, hn, s1, x1, s4, s5, s6, hi, hwt, hw1, bytesOf_append, bytesOf_size, z1, z2, z3, z4, z5, z6, z7, z8]; done))
      | (refine Tri.cond_false ?_ ?_; (focus simp [upd, hn, s1, x1, s4, s5, s6, hi, hwt, hw1, bytesOf_append, bytesOf_size, z1, z2, z3, z4, z5, z6, z7, z8]; done))
      | (refine Tri.skip ?_; simp only [thenS, blockS])
      | (refine Tri.block_seq ?_)
      | (refine Tri.block_region ?_)
      | (refine Tri.block_cond ?_)
      | ((with_reducible refine CallK.pure (u0) (Wks.refl _) ?_); simp [upd, hn, s1, x1, s4, s5, s6, hi, hwt, hw1, bytesOf_append, bytesOf_size, z1, z2, z3, z4, z5, z6, z7, z8])
      | ((with_reducible refine CallK.pure (u1) (Wks.refl _) ?_); simp [upd, hn, s1, x1, s4, s5, s6, hi, hwt, hw1, bytesOf_append, bytesOf_size, z1, z2, z3, z4, z5, z6, z7, z8])
      | ((with_reducible refine CallK.pure (u2) (Wks.refl _) ?_); simp [upd, hn, s1, x1, s4, s5, s6, hi, hwt, hw1, bytesOf_append, bytesOf_size, z1, z2, z3, z4, z5, z6, z7, z8])
      | ((with_reducible refine CallK.pure (u3) (Wks.refl _) ?_); simp [upd, hn, s1, x1, s4, s5, s6, hi, hwt, hw1, bytesOf_append, bytesOf_size, z1, z2, z3, z4, z5, z6, z7, z8])
      | ((with_reducible refine CallK.pure (u4) (Wks.refl _) ?_); simp [upd, hn, s1, x1, s4, s5, s6, hi, hwt, hw1, bytesOf_append, bytesOf_size, z1, z2, z3, z4, z5, z6, z7, z8])
      | ((with_reducible refine CallK.pure (u5) (Wks.refl _) ?_); simp [upd, hn, s1, x1, s4, s5, s6, hi, hwt, hw1, bytesOf_append, bytesOf_size, z1, z2, z3, z4, z5, z6, z7, z8])
      | ((with_reducible refine CallK.pure (u6) (Wks.refl _) ?_); simp [upd, hn, s1, x1, s4, s5, s6, hi, hwt, hw1, bytesOf_append, bytesOf_size, z1, z2, z3, z4, z5, z6, z7, z8])
      | ((with_reducible refine CallK.pure (u7) (Wks.refl _) ?_); simp [upd, hn, s1, x1, s4, s5, s6, hi, hwt, hw1, bytesOf_append, bytesOf_size, z1, z2, z3, z4, z5, z6, z7, z8])
      | (refine Tri.exit ?_; simp [upd, hn, s1, x1, s4, s5, s6, hi, hwt, hw1, bytesOf_append, bytesOf_size, z1, z2, z3, z4, z5, z6, z7, z8]; first | (rename ∀ st, Tri _ _ _ st _ → _ => hK; first | (apply hK; clear hK) | (clear hK; rename ∀ st, Tri _ _ _ st _ → _ => hK; first | (apply hK; clear hK) | (clear hK; rename ∀ st, Tri _ _ _ st _ → _ => hK; first | (apply hK; clear hK) | (clear hK; rename ∀ st, Tri _ _ _ st _ → _ => hK; first | (apply hK; clear hK) | (clear hK; rename ∀ st, Tri _ _ _ st _ → _ => hK; first | (apply hK; clear hK) | (clear hK; rename ∀ st, Tri _ _ _ st _ → _ => hK; apply hK; clear hK)))))) | skip)
      | (intro β)
      | (rename ∀ st, Tri _ _ _ st _ → _ => hK; apply hK; clear hK))
    exact ⟨m - 1, by omega, b1, cur ++ (w0 ++ (w1 ++ (w2 ++ (w3 ++ (w4 ++ (w5 ++ (w6 ++ w7))))))), r.atts[i].slot, i + 1, ⟨rfl, by simp [upd, s1], by simpa using x1, by simp [upd], by simp [upd]⟩, by omega, by simp [upd], by rw [← hcur]; simp [List.append_assoc], a0, hts'⟩
end Go.Proofs.Ytcohdlochpjnjaa
end
section
open Go Go.Vm
namespace Go.Proofs.Ytcohdlochpjnjaa
set_option maxRecDepth 100000
set_option maxHeartbeats 4000000
set_option linter.unusedSimpArgs false
attribute [local irreducible] Tri Does DoesB Rounds
/-- What the reference's reader does: at most four bytes, and what was bad stays so. -/
def nr (d : ByteArray) (bad : Bool) : Int × ByteArray × Bool := ((numGo d false 4 0 0).1, (numGo d false 4 0 0).2.1, bad || (numGo d false 4 0 0).2.2)
def nxr (q : Q3) : Q3 := nr q.2.1 q.2.2
theorem nxr_rdr : Rdr nxr := by
  refine ⟨fun q h => ?_, fun u n rest h => ?_, fun u v l d' h => ?_⟩
  · simp only [nxr, nr, Bool.or_eq_false_iff] at h
    exact h.1
  · have := numGo_digs rest n 4 0 [] 0 rfl (by omega) (by simpa using h) (by simp) (by omega) (by omega)
    simp only [List.nil_append, Nat.pow_zero, Nat.mul_one, Nat.zero_add] at this
    rw [show ((0 : Nat) : Int) = 0 from rfl] at this
    simp [nxr, nr, this]
  · simp only [nxr, nr, Bool.false_or] at h
    obtain ⟨n, rest, _, h2, h3, h4, h5⟩ := numGo_inv l 4 0 0 v d' (by omega) (by simp) (by
      simp only [Prod.mk.injEq] at h
      exact Prod.ext h.1 (Prod.ext h.2.1 h.2.2))
    exact ⟨n, rest, by simpa using h5, by omega, by simpa using h3, h4⟩
def NInvR (k0 b0 : Nat) (d : ByteArray) (bad : Bool) (m : Nat) (st : St) : Prop := ∃ (i n : Nat), m + i = 4 ∧ st.sl 0 = .c (.box k0 b0 0) ∧ st.bx k0 = some (b0, [.str d, .bool bad]) ∧ st.sl 3 = .c (.int .i64 (n : Int)) ∧ st.sl 4 = .c (.int .i64 ((7 * i : Nat) : Int)) ∧ st.sl 5 = .c (.int .i64 (i : Int)) ∧ n < 128 ^ i ∧ numGo d false 4 0 0 = numGo d false (4 - i) i (n : Int) ∧ st.n = 66
theorem numberR_does (k0 b0 : Nat) (d : ByteArray) (bad : Bool) : DoesB Try.prog 39 [.c (.box k0 b0 0)] [(k0, b0, [.str d, .bool bad])] [] (fun _ => (.c (.int .i64 (nr d bad).1), [(k0, b0, [.str (nr d bad).2.1, .bool (nr d bad).2.2])], [])) := by
  refine DoesB.of_body Try.func39 rfl (by kernel_rfl) rfl rfl (by simp) (fun _ => rfl) fun E => ?_
  unfold nr
  repeat (first
    | (refine Tri.seq fun K hK => ?_)
    | (refine Tri.region ?_; simp [upd])
    | (refine Tri.draw (by kernel_rfl) (by decide +kernel) ?_; simp [upd])
    | (refine Tri.cond_true ?_ ?_; (focus simp [upd]; done))
    | (refine Tri.cond_false ?_ ?_; (focus simp [upd]; done))
    | (refine Tri.skip ?_; simp only [thenS, blockS])
    | (refine Tri.block_seq ?_)
    | (refine Tri.block_region ?_)
    | (refine Tri.block_cond ?_)
    | (refine Tri.exit ?_; simp [upd]; first | (rename ∀ st, Tri _ _ _ st _ → _ => hK; first | (apply hK; clear hK) | (clear hK; rename ∀ st, Tri _ _ _ st _ → _ => hK; first | (apply hK; clear hK) | (clear hK; rename ∀ st, Tri _ _ _ st _ → _ => hK; first | (apply hK; clear hK) | (clear hK; rename ∀ st, Tri _ _ _ st _ → _ => hK; first | (apply hK; clear hK) | (clear hK; rename ∀ st, Tri _ _ _ st _ → _ => hK; first | (apply hK; clear hK) | (clear hK; rename ∀ st, Tri _ _ _ st _ → _ => hK; apply hK; clear hK)))))) | skip)
    | (intro β)
    | (rename ∀ st, Tri _ _ _ st _ → _ => hK; apply hK; clear hK))
  rename ∀ st, Tri _ _ _ st _ → _ => hK
  have fin := fun (st : St) (h : st.n = 66 ∧ st.sl 0 = .c (.box k0 b0 0) ∧ st.bx k0 = some (b0, [.str d, .bool bad]) ∧ numGo d false 4 0 0 = (0, d, true)) => hK st ?tail
  case tail =>
    obtain ⟨hn, a0, a1, hgo⟩ := h
    rw [hgo]
    repeat (first
      | (refine Tri.seq fun K hK => ?_)
      | (refine Tri.region ?_; simp [upd, hn, a0, a1])
      | (refine Tri.draw (by kernel_rfl) (by decide +kernel) ?_; simp [upd, hn, a0, a1])
      | (refine Tri.cond_true ?_ ?_; (focus simp [upd, hn, a0, a1]; done))
      | (refine Tri.cond_false ?_ ?_; (focus simp [upd, hn, a0, a1]; done))
      | (refine Tri.skip ?_; simp only [thenS, blockS])
      | (refine Tri.block_seq ?_)
      | (refine Tri.block_region ?_)
      | (refine Tri.block_cond ?_)
      | (refine Tri.exit ?_; simp [upd, hn, a0, a1]; first | (rename ∀ st, Tri _ _ _ st _ → _ => hK; first | (apply hK; clear hK) | (clear hK; rename ∀ st, Tri _ _ _ st _ → _ => hK; first | (apply hK; clear hK) | (clear hK; rename ∀ st, Tri _ _ _ st _ → _ => hK; first | (apply hK; clear hK) | (clear hK; rename ∀ st, Tri _ _ _ st _ → _ => hK; first | (apply hK; clear hK) | (clear hK; rename ∀ st, Tri _ _ _ st _ → _ => hK; first | (apply hK; clear hK) | (clear hK; rename ∀ st, Tri _ _ _ st _ → _ => hK; apply hK; clear hK)))))) | skip)
      | (intro β)
      | (rename ∀ st, Tri _ _ _ st _ → _ => hK; apply hK; clear hK))
    refine Tri.ret ⟨_, 0, [], rfl, ?_, ?_, trivial, by simp⟩
    · simp [upd]
      exact Wk.refl _
    · simp [upd]
  clear hK
  refine Tri.block (Tri.loop (NInvR k0 b0 d bad) 4 ⟨0, 0, rfl, by simp [upd], by simp [upd], by simp [upd], by simp [upd], by simp [upd], by simp, rfl, rfl⟩ ?_)
  rintro m st ⟨i, n, hm, a0, a1, a3, a4, a5, hb, hgo, hn⟩
  by_cases hs : i < d.size
  case neg =>
    have hz : numGo d false (4 - i) i (n : Int) = (0, d, true) := by
      cases h4 : 4 - i with
      | zero => rfl
      | succ f => rw [numGo, if_neg (fun h => hs h.1)]
    repeat (first
      | (refine Tri.seq fun K hK => ?_)
      | (refine Tri.region ?_; simp [upd, hn, a0, a1, a3, a4, a5, hs])
      | (refine Tri.draw (by kernel_rfl) (by decide +kernel) ?_; simp [upd, hn, a0, a1, a3, a4, a5, hs])
      | (refine Tri.cond_true ?_ ?_; (focus simp [upd, hn, a0, a1, a3, a4, a5, hs]; done))
      | (refine Tri.cond_false ?_ ?_; (focus simp [upd, hn, a0, a1, a3, a4, a5, hs]; done))
      | (refine Tri.skip ?_; simp only [thenS, blockS])
      | (refine Tri.block_seq ?_)
      | (refine Tri.block_region ?_)
      | (refine Tri.block_cond ?_)
      | (refine Tri.exit ?_; simp [upd, hn, a0, a1, a3, a4, a5, hs]; first | (rename ∀ st, Tri _ _ _ st _ → _ => hK; first | (apply hK; clear hK) | (clear hK; rename ∀ st, Tri _ _ _ st _ → _ => hK; first | (apply hK; clear hK) | (clear hK; rename ∀ st, Tri _ _ _ st _ → _ => hK; first | (apply hK; clear hK) | (clear hK; rename ∀ st, Tri _ _ _ st _ → _ => hK; first | (apply hK; clear hK) | (clear hK; rename ∀ st, Tri _ _ _ st _ → _ => hK; first | (apply hK; clear hK) | (clear hK; rename ∀ st, Tri _ _ _ st _ → _ => hK; apply hK; clear hK)))))) | skip)
      | (intro β)
      | (rename ∀ st, Tri _ _ _ st _ → _ => hK; apply hK; clear hK))
    apply fin
    exact ⟨rfl, by simp [upd, a0], by simpa using a1, hgo.trans hz⟩
  by_cases h5 : i < 4
  case neg =>
    have h4 : 4 - i = 0 := by omega
    rw [h4] at hgo
    have h5' : ¬ (i : Int) < 4 := by omega
    repeat (first
      | (refine Tri.seq fun K hK => ?_)
      | (refine Tri.region ?_; simp [upd, hn, a0, a1, a3, a4, a5, hs, h5'])
      | (refine Tri.draw (by kernel_rfl) (by decide +kernel) ?_; simp [upd, hn, a0, a1, a3, a4, a5, hs, h5'])
      | (refine Tri.cond_true ?_ ?_; (focus simp [upd, hn, a0, a1, a3, a4, a5, hs, h5']; done))
      | (refine Tri.cond_false ?_ ?_; (focus simp [upd, hn, a0, a1, a3, a4, a5, hs, h5']; done))
      | (refine Tri.skip ?_; simp only [thenS, blockS])
      | (refine Tri.block_seq ?_)
      | (refine Tri.block_region ?_)
      | (refine Tri.block_cond ?_)
      | (refine Tri.exit ?_; simp [upd, hn, a0, a1, a3, a4, a5, hs, h5']; first | (rename ∀ st, Tri _ _ _ st _ → _ => hK; first | (apply hK; clear hK) | (clear hK; rename ∀ st, Tri _ _ _ st _ → _ => hK; first | (apply hK; clear hK) | (clear hK; rename ∀ st, Tri _ _ _ st _ → _ => hK; first | (apply hK; clear hK) | (clear hK; rename ∀ st, Tri _ _ _ st _ → _ => hK; first | (apply hK; clear hK) | (clear hK; rename ∀ st, Tri _ _ _ st _ → _ => hK; first | (apply hK; clear hK) | (clear hK; rename ∀ st, Tri _ _ _ st _ → _ => hK; apply hK; clear hK)))))) | skip)
      | (intro β)
      | (rename ∀ st, Tri _ _ _ st _ → _ => hK; apply hK; clear hK))
    apply fin
    exact ⟨rfl, by simp [upd, a0], by simpa using a1, hgo⟩
  have h5' : (i : Int) < 4 := by omega
  obtain ⟨f, hf⟩ : ∃ f, 4 - i = f + 1 := ⟨3 - i, by omega⟩
  rw [hf] at hgo
  conv at hgo => rhs; rw [numGo, if_pos ⟨hs, rfl⟩]
  obtain ⟨c, hc1, hc2⟩ : ∃ c : Nat, byteAt d i = (c : Int) ∧ c < 256 := by
    unfold byteAt
    rw [dif_pos hs]
    exact ⟨_, rfl, UInt8.toNat_lt _⟩
  have hp5 : 128 ^ i ≤ 2097152 := by
    calc 128 ^ i ≤ 128 ^ 3 := Nat.pow_le_pow_right (by omega) (by omega)
      _ = 2097152 := by decide
  have hmm : c % 128 * 128 ^ i ≤ 127 * 128 ^ i := Nat.mul_le_mul_right _ (by omega)
  rw [hc1, numStep_nat n c i (by omega) hb hc2] at hgo
  have hnb : n + c % 128 * 128 ^ i < 128 ^ (i + 1) := by rw [pow128]; omega
  have q1 : ((c : Int)).tmod 128 = ((c % 128 : Nat) : Int) := by rw [Int.tmod_eq_emod_of_nonneg (by omega)]; omega
  have q0 : IntKind.i64.wrap (c : Int) = (c : Int) := wrap_i64 (by omega) (by omega)
  have q2 : IntKind.i64.wrap ((c : Int) % 128 * 2 ^ (min (7 * i) 64)) = ((c % 128 * 128 ^ i : Nat) : Int) := by
    rw [show (c : Int) % 128 = ((c % 128 : Nat) : Int) by omega]
    have e : (2 : Int) ^ (min (7 * i) 64) = ((128 ^ i : Nat) : Int) := by
      rw [Nat.min_eq_left (by omega), show (128 : Nat) ^ i = 2 ^ (7 * i) from (Nat.pow_mul 2 7 i).symm]
      simp
    rw [e, ← Int.natCast_mul]
    exact wrap_i64 (by omega) (by omega)
  have q3 : IntKind.i64.wrap ((n : Int) + ((c % 128 * 128 ^ i : Nat) : Int)) = ((n + c % 128 * 128 ^ i : Nat) : Int) := by
    rw [← Int.natCast_add]
    exact wrap_i64 (by omega) (by omega)
  have q4 : IntKind.i64.wrap (7 * (i : Int) + 7) = ((7 * (i + 1) : Nat) : Int) := by rw [wrap_i64 (by omega) (by omega)]; omega
  have q5 : IntKind.i64.wrap ((i : Int) + 1) = ((i + 1 : Nat) : Int) := by rw [wrap_i64 (by omega) (by omega)]; omega
  have q6 : ¬ 7 * (i : Int) < 0 := by omega
  have q7 : (7 * (i : Int)).toNat = 7 * i := by omega
  generalize hN : n + c % 128 * 128 ^ i = n2 at *
  generalize hM : c % 128 * 128 ^ i = m2 at *
  by_cases hc : c < 128
  case neg =>
    rw [if_neg (by omega)] at hgo
    have hcI : ¬ (c : Int) < 128 := by omega
    repeat (first
      | (refine Tri.seq fun K hK => ?_)
      | (refine Tri.region ?_; simp [upd, hn, a0, a1, a3, a4, a5, h5', hs, hc1, hcI, q0, q1, q2, q3, q4, q5, q6, q7])
      | (refine Tri.draw (by kernel_rfl) (by decide +kernel) ?_; simp [upd, hn, a0, a1, a3, a4, a5, h5', hs, hc1, hcI, q0, q1, q2, q3, q4, q5, q6, q7])
      | (refine Tri.cond_true ?_ ?_; (focus simp [upd, hn, a0, a1, a3, a4, a5, h5', hs, hc1, hcI, q0, q1, q2, q3, q4, q5, q6, q7]; done))
      | (refine Tri.cond_false ?_ ?_; (focus simp [upd, hn, a0, a1, a3, a4, a5, h5', hs, hc1, hcI, q0, q1, q2, q3, q4, q5, q6, q7]; done))
      | (refine Tri.skip ?_; simp only [thenS, blockS])
      | (refine Tri.block_seq ?_)
      | (refine Tri.block_region ?_)
      | (refine Tri.block_cond ?_)
      | (refine Tri.exit ?_; simp [upd, hn, a0, a1, a3, a4, a5, h5', hs, hc1, hcI, q0, q1, q2, q3, q4, q5, q6, q7]; first | (rename ∀ st, Tri _ _ _ st _ → _ => hK; first | (apply hK; clear hK) | (clear hK; rename ∀ st, Tri _ _ _ st _ → _ => hK; first | (apply hK; clear hK) | (clear hK; rename ∀ st, Tri _ _ _ st _ → _ => hK; first | (apply hK; clear hK) | (clear hK; rename ∀ st, Tri _ _ _ st _ → _ => hK; first | (apply hK; clear hK) | (clear hK; rename ∀ st, Tri _ _ _ st _ → _ => hK; first | (apply hK; clear hK) | (clear hK; rename ∀ st, Tri _ _ _ st _ → _ => hK; apply hK; clear hK)))))) | skip)
      | (intro β)
      | (rename ∀ st, Tri _ _ _ st _ → _ => hK; apply hK; clear hK))
    exact ⟨m - 1, by omega, i + 1, n2, by omega, by simp [upd, a0], by simpa using a1, by simp [upd], by simp [upd, q4], by simp [upd], hnb, by rw [hgo, show 4 - (i + 1) = f by omega], rfl⟩
  rw [if_pos (by omega)] at hgo
  have hcI : (c : Int) < 128 := by omega
  have hsz : i + 1 ≤ d.size := hs
  have hw3 : 0 ≤ (i : Int) + 1 := by omega
  have hw4 : ((i : Int) + 1).toNat = i + 1 := by omega
  have hw5 : IntKind.i64.wrap ((i : Int) + 1) = (i : Int) + 1 := wrap_i64 (by omega) (by omega)
  cases bad
  case true =>
    repeat (first
      | (refine Tri.seq fun K hK => ?_)
      | (refine Tri.region ?_; simp [upd, hn, a0, a1, a3, a4, a5, h5', hs, hc1, hcI, q0, q1, q2, q3, q4, q6, q7, hsz, hw3, hw4, hw5])
      | (refine Tri.draw (by kernel_rfl) (by decide +kernel) ?_; simp [upd, hn, a0, a1, a3, a4, a5, h5', hs, hc1, hcI, q0, q1, q2, q3, q4, q6, q7, hsz, hw3, hw4, hw5])
      | (refine Tri.cond_true ?_ ?_; (focus simp [upd, hn, a0, a1, a3, a4, a5, h5', hs, hc1, hcI, q0, q1, q2, q3, q4, q6, q7, hsz, hw3, hw4, hw5]; done))
      | (refine Tri.cond_false ?_ ?_; (focus simp [upd, hn, a0, a1, a3, a4, a5, h5', hs, hc1, hcI, q0, q1, q2, q3, q4, q6, q7, hsz, hw3, hw4, hw5]; done))
      | (refine Tri.skip ?_; simp only [thenS, blockS])
      | (refine Tri.block_seq ?_)
      | (refine Tri.block_region ?_)
      | (refine Tri.block_cond ?_)
      | (refine Tri.exit ?_; simp [upd, hn, a0, a1, a3, a4, a5, h5', hs, hc1, hcI, q0, q1, q2, q3, q4, q6, q7, hsz, hw3, hw4, hw5]; first | (rename ∀ st, Tri _ _ _ st _ → _ => hK; first | (apply hK; clear hK) | (clear hK; rename ∀ st, Tri _ _ _ st _ → _ => hK; first | (apply hK; clear hK) | (clear hK; rename ∀ st, Tri _ _ _ st _ → _ => hK; first | (apply hK; clear hK) | (clear hK; rename ∀ st, Tri _ _ _ st _ → _ => hK; first | (apply hK; clear hK) | (clear hK; rename ∀ st, Tri _ _ _ st _ → _ => hK; first | (apply hK; clear hK) | (clear hK; rename ∀ st, Tri _ _ _ st _ → _ => hK; apply hK; clear hK)))))) | skip)
      | (intro β)
      | (rename ∀ st, Tri _ _ _ st _ → _ => hK; apply hK; clear hK))
    rw [hgo]
    refine Tri.ret ⟨_, 0, [], rfl, ?_, ?_, trivial, by simp⟩
    · simp [upd]
      exact Wk.refl _
    · simp [upd]
  cases hz : ((c : Int) == 0)
  · rw [hz, Bool.false_and] at hgo
    repeat (first
      | (refine Tri.seq fun K hK => ?_)
      | (refine Tri.region ?_; simp [upd, hn, a0, a1, a3, a4, a5, h5', hs, hc1, hcI, q0, q1, q2, q3, q4, q6, q7, hsz, hw3, hw4, hw5, hz])
      | (refine Tri.draw (by kernel_rfl) (by decide +kernel) ?_; simp [upd, hn, a0, a1, a3, a4, a5, h5', hs, hc1, hcI, q0, q1, q2, q3, q4, q6, q7, hsz, hw3, hw4, hw5, hz])
      | (refine Tri.cond_true ?_ ?_; (focus simp [upd, hn, a0, a1, a3, a4, a5, h5', hs, hc1, hcI, q0, q1, q2, q3, q4, q6, q7, hsz, hw3, hw4, hw5, hz]; done))
      | (refine Tri.cond_false ?_ ?_; (focus simp [upd, hn, a0, a1, a3, a4, a5, h5', hs, hc1, hcI, q0, q1, q2, q3, q4, q6, q7, hsz, hw3, hw4, hw5, hz]; done))
      | (refine Tri.skip ?_; simp only [thenS, blockS])
      | (refine Tri.block_seq ?_)
      | (refine Tri.block_region ?_)
      | (refine Tri.block_cond ?_)
      | (refine Tri.exit ?_; simp [upd, hn, a0, a1, a3, a4, a5, h5', hs, hc1, hcI, q0, q1, q2, q3, q4, q6, q7, hsz, hw3, hw4, hw5, hz]; first | (rename ∀ st, Tri _ _ _ st _ → _ => hK; first | (apply hK; clear hK) | (clear hK; rename ∀ st, Tri _ _ _ st _ → _ => hK; first | (apply hK; clear hK) | (clear hK; rename ∀ st, Tri _ _ _ st _ → _ => hK; first | (apply hK; clear hK) | (clear hK; rename ∀ st, Tri _ _ _ st _ → _ => hK; first | (apply hK; clear hK) | (clear hK; rename ∀ st, Tri _ _ _ st _ → _ => hK; first | (apply hK; clear hK) | (clear hK; rename ∀ st, Tri _ _ _ st _ → _ => hK; apply hK; clear hK)))))) | skip)
      | (intro β)
      | (rename ∀ st, Tri _ _ _ st _ → _ => hK; apply hK; clear hK))
    rw [hgo]
    refine Tri.ret ⟨_, 0, [], rfl, ?_, ?_, trivial, by simp⟩
    · simp [upd]
      exact Wk.refl _
    · simp [upd]
  · cases hi : decide (0 < i) <;> simp only [decide_eq_true_eq, decide_eq_false_iff_not] at hi
    · rw [hz, decide_eq_false hi, Bool.true_and] at hgo
      repeat (first
        | (refine Tri.seq fun K hK => ?_)
        | (refine Tri.region ?_; simp [upd, hn, a0, a1, a3, a4, a5, h5', hs, hc1, hcI, q0, q1, q2, q3, q4, q6, q7, hsz, hw3, hw4, hw5, hz, hi])
        | (refine Tri.draw (by kernel_rfl) (by decide +kernel) ?_; simp [upd, hn, a0, a1, a3, a4, a5, h5', hs, hc1, hcI, q0, q1, q2, q3, q4, q6, q7, hsz, hw3, hw4, hw5, hz, hi])
        | (refine Tri.cond_true ?_ ?_; (focus simp [upd, hn, a0, a1, a3, a4, a5, h5', hs, hc1, hcI, q0, q1, q2, q3, q4, q6, q7, hsz, hw3, hw4, hw5, hz, hi]; done))
        | (refine Tri.cond_false ?_ ?_; (focus simp [upd, hn, a0, a1, a3, a4, a5, h5', hs, hc1, hcI, q0, q1, q2, q3, q4, q6, q7, hsz, hw3, hw4, hw5, hz, hi]; done))
        | (refine Tri.skip ?_; simp only [thenS, blockS])
        | (refine Tri.block_seq ?_)
        | (refine Tri.block_region ?_)
        | (refine Tri.block_cond ?_)
        | (refine Tri.exit ?_; simp [upd, hn, a0, a1, a3, a4, a5, h5', hs, hc1, hcI, q0, q1, q2, q3, q4, q6, q7, hsz, hw3, hw4, hw5, hz, hi]; first | (rename ∀ st, Tri _ _ _ st _ → _ => hK; first | (apply hK; clear hK) | (clear hK; rename ∀ st, Tri _ _ _ st _ → _ => hK; first | (apply hK; clear hK) | (clear hK; rename ∀ st, Tri _ _ _ st _ → _ => hK; first | (apply hK; clear hK) | (clear hK; rename ∀ st, Tri _ _ _ st _ → _ => hK; first | (apply hK; clear hK) | (clear hK; rename ∀ st, Tri _ _ _ st _ → _ => hK; first | (apply hK; clear hK) | (clear hK; rename ∀ st, Tri _ _ _ st _ → _ => hK; apply hK; clear hK)))))) | skip)
        | (intro β)
        | (rename ∀ st, Tri _ _ _ st _ → _ => hK; apply hK; clear hK))
      rw [hgo]
      refine Tri.ret ⟨_, 0, [], rfl, ?_, ?_, trivial, by simp⟩
      · simp [upd]
        exact Wk.refl _
      · simp [upd]
    · rw [hz, decide_eq_true hi, Bool.true_and] at hgo
      repeat (first
        | (refine Tri.seq fun K hK => ?_)
        | (refine Tri.region ?_; simp [upd, hn, a0, a1, a3, a4, a5, h5', hs, hc1, hcI, q0, q1, q2, q3, q4, q6, q7, hsz, hw3, hw4, hw5, hz, hi])
        | (refine Tri.draw (by kernel_rfl) (by decide +kernel) ?_; simp [upd, hn, a0, a1, a3, a4, a5, h5', hs, hc1, hcI, q0, q1, q2, q3, q4, q6, q7, hsz, hw3, hw4, hw5, hz, hi])
        | (refine Tri.cond_true ?_ ?_; (focus simp [upd, hn, a0, a1, a3, a4, a5, h5', hs, hc1, hcI, q0, q1, q2, q3, q4, q6, q7, hsz, hw3, hw4, hw5, hz, hi]; done))
        | (refine Tri.cond_false ?_ ?_; (focus simp [upd, hn, a0, a1, a3, a4, a5, h5', hs, hc1, hcI, q0, q1, q2, q3, q4, q6, q7, hsz, hw3, hw4, hw5, hz, hi]; done))
        | (refine Tri.skip ?_; simp only [thenS, blockS])
        | (refine Tri.block_seq ?_)
        | (refine Tri.block_region ?_)
        | (refine Tri.block_cond ?_)
        | (refine Tri.exit ?_; simp [upd, hn, a0, a1, a3, a4, a5, h5', hs, hc1, hcI, q0, q1, q2, q3, q4, q6, q7, hsz, hw3, hw4, hw5, hz, hi]; first | (rename ∀ st, Tri _ _ _ st _ → _ => hK; first | (apply hK; clear hK) | (clear hK; rename ∀ st, Tri _ _ _ st _ → _ => hK; first | (apply hK; clear hK) | (clear hK; rename ∀ st, Tri _ _ _ st _ → _ => hK; first | (apply hK; clear hK) | (clear hK; rename ∀ st, Tri _ _ _ st _ → _ => hK; first | (apply hK; clear hK) | (clear hK; rename ∀ st, Tri _ _ _ st _ → _ => hK; first | (apply hK; clear hK) | (clear hK; rename ∀ st, Tri _ _ _ st _ → _ => hK; apply hK; clear hK)))))) | skip)
        | (intro β)
        | (rename ∀ st, Tri _ _ _ st _ → _ => hK; apply hK; clear hK))
      rw [hgo]
      refine Tri.ret ⟨_, 0, [], rfl, ?_, ?_, trivial, by simp⟩
      · simp [upd]
        exact Wk.refl _
      · simp [upd]
end Go.Proofs.Ytcohdlochpjnjaa
end
section
open Go Go.Vm
namespace Go.Proofs.Ytcohdlochpjnjaa
set_option maxRecDepth 100000
set_option maxHeartbeats 4000000
set_option linter.unusedSimpArgs false
theorem nxr_does (br : Nat) (q : Q3) : DoesB Try.prog 39 [.c (.box 14 br 0)] [(14, br, [.str q.2.1, .bool q.2.2])] [] (fun _ => (.c (.int .i64 (nxr q).1), [(14, br, [.str (nxr q).2.1, .bool (nxr q).2.2])], [])) := numberR_does 14 br q.2.1 q.2.2
theorem nxr_le (q : Q3) : (nxr q).1 ≤ 9223372036854775807 ∧ -9223372036854775808 ≤ (nxr q).1 := numGo_le ..
theorem nxr_size (q : Q3) : (nxr q).2.1.size ≤ q.2.1.size ∧ ((nxr q).2.2 = false → (nxr q).2.1.size + 1 ≤ q.2.1.size ∧ q.2.2 = false) := by
  have := numGo_size q.2.1 false 4 0 0
  refine ⟨this.1, fun h => ?_⟩
  simp only [nxr, nr, Bool.or_eq_false_iff] at h
  exact ⟨(this.2 h.2).1, h.1⟩
theorem nxr3_size (q : Q3) : (nxr (nxr (nxr q))).2.1.size ≤ q.2.1.size ∧ ((nxr (nxr (nxr q))).2.2 = false → (nxr (nxr (nxr q))).2.1.size + 1 ≤ q.2.1.size) := by
  have h1 := nxr_size q
  have h2 := nxr_size (nxr q)
  have h3 := nxr_size (nxr (nxr q))
  exact ⟨by omega, fun h => by have := (h3.2 h).1; omega⟩
theorem nxr8_size (q : Q3) : (rd8 nxr q).2.1.size ≤ q.2.1.size ∧ ((rd8 nxr q).2.2 = false → (rd8 nxr q).2.1.size + 1 ≤ q.2.1.size) := by
  unfold rd8
  have h1 := nxr_size q
  have h2 := nxr_size (nxr q)
  have h3 := nxr3_size (nxr (nxr q))
  have h4 := nxr3_size (nxr (nxr (nxr (nxr (nxr q)))))
  exact ⟨by omega, fun h => by have := h4.2 h; omega⟩
def decOkR (d : ByteArray) : Bool := !(grD nxr d).2.2.2 && (((grD nxr d).2.2.1.toList == []) && check (gRec nxr d) == 0)
def decodeR (d : ByteArray) : Rec × Int := if decOkR d = true then (gRec nxr d, 0) else (zrec, 10)
attribute [local irreducible] Tri Does DoesB Rounds nxr check
structure GI (d : ByteArray) (st : St) (br b5 b2 : Nat) (q : Q3) (n : Int) (G H : C) : Prop where
  hn : st.n = 126
  s4 : st.sl 4 = .c (.box 14 br 0)
  x14 : st.bx 14 = some (br, [.str q.2.1, .bool q.2.2])
  s5 : st.sl 5 = .c (.box 5 b5 0)
  x5 : st.bx 5 = some (b5, [.int .i64 (gqA nxr d).1, G, H])
  s6 : st.sl 6 = .c (.int .i64 n)
  s2 : st.sl 2 = .c (.box 2 b2 0)
  x2 : st.bx 2 = some (b2, [.int .i64 0, .sl true 0 none [], .sl true 0 none []])
  sz : q.2.1.size ≤ d.size
structure GI1 (d : ByteArray) (m : Nat) (st : St) (q : Q3) (t n i : Int) (acc : List Att) : Prop where
  s7 : st.sl 7 = .c (.int .i64 t)
  s8 : st.sl 8 = .c (.int .i64 i)
  i0 : 0 ≤ i
  nb : n ≤ 9223372036854775807
  bud : n.toNat = m + i.toNat
  eq : grA nxr d = (acc ++ (gA nxr m t q).1, (gA nxr m t q).2)
  len1 : q.2.2 = false → acc.length + q.2.1.size ≤ d.size
  len2 : acc.length ≤ d.size + 1
structure GI2 (d : ByteArray) (m : Nat) (st : St) (q : Q3) (t n i : Int) (acc : List Del) : Prop where
  s7 : st.sl 7 = .c (.int .i64 t)
  s10 : st.sl 10 = .c (.int .i64 i)
  i0 : 0 ≤ i
  nb : n ≤ 9223372036854775807
  bud : n.toNat = m + i.toNat
  eq : grD nxr d = (acc ++ (gD nxr m t q).1, (gD nxr m t q).2)
  len1 : q.2.2 = false → acc.length + q.2.1.size ≤ d.size
  len2 : acc.length ≤ d.size + 1
def GInv1 (d : ByteArray) (m : Nat) (st : St) : Prop := ∃ br b5 b2 q n G t i acc, GI d st br b5 b2 q n G (.sl true 0 none []) ∧ GC st G 70 45 8 (acc.map attC) ∧ GI1 d m st q t n i acc
def GEnd1 (d : ByteArray) (st : St) : Prop := ∃ br b5 b2 n G, GI d st br b5 b2 (grA nxr d).2 n G (.sl true 0 none []) ∧ GC st G 70 45 8 ((grA nxr d).1.map attC)
def GInv2 (d : ByteArray) (m : Nat) (st : St) : Prop := ∃ br b5 b2 q n G H t i acc, GI d st br b5 b2 q n G H ∧ GC st G 70 45 8 ((grA nxr d).1.map attC) ∧ GC st H 105 62 3 (acc.map delC) ∧ GI2 d m st q t n i acc
def GEnd2 (d : ByteArray) (st : St) : Prop := ∃ br b5 b2 n G H, GI d st br b5 b2 (grD nxr d).2 n G H ∧ GC st G 70 45 8 ((grA nxr d).1.map attC) ∧ GC st H 105 62 3 ((grD nxr d).1.map delC)
theorem decodeR_does (d : ByteArray) (hd : d.size ≤ 1073741824) : Does Try.prog 12 [.c (.str d)] (.tup [.agg (recC (decodeR d).1), .c (.int .i64 (decodeR d).2)]) := by
  refine Does.of_body Try.func12 rfl (by kernel_rfl) rfl rfl (by simp) ?_
  intro E
  repeat (first
    | (refine Tri.seq fun K hK => ?_)
    | (refine Tri.region ?_; simp [upd])
    | (refine Tri.draw (by kernel_rfl) (by decide +kernel) ?_; simp [upd])
    | (refine Tri.cond_true ?_ ?_; (focus simp [upd]; done))
    | (refine Tri.cond_false ?_ ?_; (focus simp [upd]; done))
    | (refine Tri.skip ?_; simp only [thenS, blockS])
    | (refine Tri.block_seq ?_)
    | (refine Tri.block_region ?_)
    | (refine Tri.block_cond ?_)
    | (with_reducible refine CallK.box1 (nxr_does _ (nxr (0, d, false))) (Wks.refl _) ?_ ?_; (focus (simp [upd]; done)); simp [upd])
    | (with_reducible refine CallK.box1 (nxr_does _ (0, d, false)) (Wks.refl _) ?_ ?_; (focus (simp [upd]; done)); simp [upd])
    | (refine Tri.exit ?_; simp [upd]; first | (rename ∀ st, Tri _ _ _ st _ → _ => hK; first | (apply hK; clear hK) | (clear hK; rename ∀ st, Tri _ _ _ st _ → _ => hK; first | (apply hK; clear hK) | (clear hK; rename ∀ st, Tri _ _ _ st _ → _ => hK; first | (apply hK; clear hK) | (clear hK; rename ∀ st, Tri _ _ _ st _ → _ => hK; first | (apply hK; clear hK) | (clear hK; rename ∀ st, Tri _ _ _ st _ → _ => hK; first | (apply hK; clear hK) | (clear hK; rename ∀ st, Tri _ _ _ st _ → _ => hK; apply hK; clear hK)))))) | skip)
    | (intro β)
    | (rename ∀ st, Tri _ _ _ st _ → _ => hK; apply hK; clear hK))
  rename ∀ st, Tri _ _ _ st _ → _ => hK
  have fin := fun (st : St) (h : GEnd1 d st) => hK st ?tail
  case tail =>
    obtain ⟨br, b5, b2, n, G, ⟨hn, s4, x14, s5, x5, s6, s2, x2, sz⟩, hG⟩ := h
    clear hK
    repeat (first
      | (refine Tri.seq fun K hK => ?_)
      | (refine Tri.region ?_; simp [upd, hn, s4, x14, s5, x5, s6, s2, x2])
      | (refine Tri.draw (by kernel_rfl) (by decide +kernel) ?_; simp [upd, hn, s4, x14, s5, x5, s6, s2, x2])
      | (refine Tri.cond_true ?_ ?_; (focus simp [upd, hn, s4, x14, s5, x5, s6, s2, x2]; done))
      | (refine Tri.cond_false ?_ ?_; (focus simp [upd, hn, s4, x14, s5, x5, s6, s2, x2]; done))
      | (refine Tri.skip ?_; simp only [thenS, blockS])
      | (refine Tri.block_seq ?_)
      | (refine Tri.block_region ?_)
      | (refine Tri.block_cond ?_)
      | (with_reducible refine CallK.box1 (nxr_does br (grA nxr d).2) (Wks.refl _) ?_ ?_; (focus (simp [upd, x14]; done)); simp [upd, hn, s4, x14, s5, x5, s6, s2, x2])
      | (refine Tri.exit ?_; simp [upd, hn, s4, x14, s5, x5, s6, s2, x2]; first | (rename ∀ st, Tri _ _ _ st _ → _ => hK; first | (apply hK; clear hK) | (clear hK; rename ∀ st, Tri _ _ _ st _ → _ => hK; first | (apply hK; clear hK) | (clear hK; rename ∀ st, Tri _ _ _ st _ → _ => hK; first | (apply hK; clear hK) | (clear hK; rename ∀ st, Tri _ _ _ st _ → _ => hK; first | (apply hK; clear hK) | (clear hK; rename ∀ st, Tri _ _ _ st _ → _ => hK; first | (apply hK; clear hK) | (clear hK; rename ∀ st, Tri _ _ _ st _ → _ => hK; apply hK; clear hK)))))) | skip)
      | (intro β)
      | (rename ∀ st, Tri _ _ _ st _ → _ => hK; apply hK; clear hK))
    rename ∀ st, Tri _ _ _ st _ → _ => hK
    have fin2 := fun (st : St) (h : GEnd2 d st) => hK st ?tail
    case tail =>
      obtain ⟨br, b5, b2, n, G, H, ⟨hn, s4, x14, s5, x5, s6, s2, x2, sz⟩, hG, hH⟩ := h
      clear hK
      have wG : Wk (.c G) (.c (.sl (grA nxr d).1.isEmpty 8 none ((grA nxr d).1.map attC))) := by simpa using GC.wk hG
      have wH : Wk (.c H) (.c (.sl (grD nxr d).1.isEmpty 3 none ((grD nxr d).1.map delC))) := by simpa using GC.wk hH
      obtain ⟨nl1, n1, o1, es1, rfl⟩ := hG.sl
      obtain ⟨nl2, n2, o2, es2, rfl⟩ := hH.sl
      have wR : Wk (.agg [.int .i64 (gqA nxr d).1, .sl nl1 n1 o1 es1, .sl nl2 n2 o2 es2]) (.agg (recC (gRec nxr d))) := .agg3 (.refl _) wG wH
      have wZ : Wk (.agg [.int .i64 0, .sl true 0 none [], .sl true 0 none []]) (.agg (recC zrec)) := .agg3 (.refl _) (.nil _ _ _ _) (.nil _ _ _ _)
      cases hb : (grD nxr d).2.2.2
      case true =>
        have e : decodeR d = (zrec, 10) := by simp [decodeR, decOkR, hb]
        rw [e]
        repeat (first
          | (refine Tri.seq fun K hK => ?_)
          | (refine Tri.region ?_; simp [upd, hn, s4, x14, s5, x5, s6, s2, x2, hb])
          | (refine Tri.draw (by kernel_rfl) (by decide +kernel) ?_; simp [upd, hn, s4, x14, s5, x5, s6, s2, x2, hb])
          | (refine Tri.cond_true ?_ ?_; (focus simp [upd, hn, s4, x14, s5, x5, s6, s2, x2, hb]; done))
          | (refine Tri.cond_false ?_ ?_; (focus simp [upd, hn, s4, x14, s5, x5, s6, s2, x2, hb]; done))
          | (refine Tri.skip ?_; simp only [thenS, blockS])
          | (refine Tri.block_seq ?_)
          | (refine Tri.block_region ?_)
          | (refine Tri.block_cond ?_)
          | (refine Tri.exit ?_; simp [upd, hn, s4, x14, s5, x5, s6, s2, x2, hb]; first | (rename ∀ st, Tri _ _ _ st _ → _ => hK; first | (apply hK; clear hK) | (clear hK; rename ∀ st, Tri _ _ _ st _ → _ => hK; first | (apply hK; clear hK) | (clear hK; rename ∀ st, Tri _ _ _ st _ → _ => hK; first | (apply hK; clear hK) | (clear hK; rename ∀ st, Tri _ _ _ st _ → _ => hK; first | (apply hK; clear hK) | (clear hK; rename ∀ st, Tri _ _ _ st _ → _ => hK; first | (apply hK; clear hK) | (clear hK; rename ∀ st, Tri _ _ _ st _ → _ => hK; apply hK; clear hK)))))) | skip)
          | (intro β)
          | (rename ∀ st, Tri _ _ _ st _ → _ => hK; apply hK; clear hK))
        refine Tri.ret ⟨.tup [.agg [.int .i64 0, .sl true 0 none [], .sl true 0 none []], .c (.int .i64 10)], by simp [upd, s2], ?_⟩
        exact .tup2 wZ (.refl _)
      cases hs : ((grD nxr d).2.2.1.toList == [])
      case false =>
        have e : decodeR d = (zrec, 10) := by simp [decodeR, decOkR, hb, hs]
        rw [e]
        repeat (first
          | (refine Tri.seq fun K hK => ?_)
          | (refine Tri.region ?_; simp [upd, hn, s4, x14, s5, x5, s6, s2, x2, hb, hs])
          | (refine Tri.draw (by kernel_rfl) (by decide +kernel) ?_; simp [upd, hn, s4, x14, s5, x5, s6, s2, x2, hb, hs])
          | (refine Tri.cond_true ?_ ?_; (focus simp [upd, hn, s4, x14, s5, x5, s6, s2, x2, hb, hs]; done))
          | (refine Tri.cond_false ?_ ?_; (focus simp [upd, hn, s4, x14, s5, x5, s6, s2, x2, hb, hs]; done))
          | (refine Tri.skip ?_; simp only [thenS, blockS])
          | (refine Tri.block_seq ?_)
          | (refine Tri.block_region ?_)
          | (refine Tri.block_cond ?_)
          | (refine Tri.exit ?_; simp [upd, hn, s4, x14, s5, x5, s6, s2, x2, hb, hs]; first | (rename ∀ st, Tri _ _ _ st _ → _ => hK; first | (apply hK; clear hK) | (clear hK; rename ∀ st, Tri _ _ _ st _ → _ => hK; first | (apply hK; clear hK) | (clear hK; rename ∀ st, Tri _ _ _ st _ → _ => hK; first | (apply hK; clear hK) | (clear hK; rename ∀ st, Tri _ _ _ st _ → _ => hK; first | (apply hK; clear hK) | (clear hK; rename ∀ st, Tri _ _ _ st _ → _ => hK; first | (apply hK; clear hK) | (clear hK; rename ∀ st, Tri _ _ _ st _ → _ => hK; apply hK; clear hK)))))) | skip)
          | (intro β)
          | (rename ∀ st, Tri _ _ _ st _ → _ => hK; apply hK; clear hK))
        refine Tri.ret ⟨.tup [.agg [.int .i64 0, .sl true 0 none [], .sl true 0 none []], .c (.int .i64 10)], by simp [upd, s2], ?_⟩
        exact .tup2 wZ (.refl _)
      cases hc : (check (gRec nxr d) == 0)
      case false =>
        have e : decodeR d = (zrec, 10) := by simp only [decodeR, decOkR, hb, hs, hc]; rfl
        rw [e]
        repeat (first
          | (refine Tri.seq fun K hK => ?_)
          | (refine Tri.region ?_; simp [upd, hn, s4, x14, s5, x5, s6, s2, x2, hb, hs, hc, bne])
          | (refine Tri.draw (by kernel_rfl) (by decide +kernel) ?_; simp [upd, hn, s4, x14, s5, x5, s6, s2, x2, hb, hs, hc, bne])
          | (refine Tri.cond_true ?_ ?_; (focus simp [upd, hn, s4, x14, s5, x5, s6, s2, x2, hb, hs, hc, bne]; done))
          | (refine Tri.cond_false ?_ ?_; (focus simp [upd, hn, s4, x14, s5, x5, s6, s2, x2, hb, hs, hc, bne]; done))
          | (refine Tri.skip ?_; simp only [thenS, blockS])
          | (refine Tri.block_seq ?_)
          | (refine Tri.block_region ?_)
          | (refine Tri.block_cond ?_)
          | (refine CallK.pure (checkR_does (gRec nxr d)) ⟨wR, trivial⟩ ?_; simp [upd, hn, s4, x14, s5, x5, s6, s2, x2, hb, hs, hc, bne])
          | (refine Tri.exit ?_; simp [upd, hn, s4, x14, s5, x5, s6, s2, x2, hb, hs, hc, bne]; first | (rename ∀ st, Tri _ _ _ st _ → _ => hK; first | (apply hK; clear hK) | (clear hK; rename ∀ st, Tri _ _ _ st _ → _ => hK; first | (apply hK; clear hK) | (clear hK; rename ∀ st, Tri _ _ _ st _ → _ => hK; first | (apply hK; clear hK) | (clear hK; rename ∀ st, Tri _ _ _ st _ → _ => hK; first | (apply hK; clear hK) | (clear hK; rename ∀ st, Tri _ _ _ st _ → _ => hK; first | (apply hK; clear hK) | (clear hK; rename ∀ st, Tri _ _ _ st _ → _ => hK; apply hK; clear hK)))))) | skip)
          | (intro β)
          | (rename ∀ st, Tri _ _ _ st _ → _ => hK; apply hK; clear hK))
        refine Tri.ret ⟨.tup [.agg [.int .i64 0, .sl true 0 none [], .sl true 0 none []], .c (.int .i64 10)], by simp [upd, s2], ?_⟩
        exact .tup2 wZ (.refl _)
      have e : decodeR d = (gRec nxr d, 0) := by simp only [decodeR, decOkR, hb, hs, hc]; rfl
      rw [e]
      repeat (first
        | (refine Tri.seq fun K hK => ?_)
        | (refine Tri.region ?_; simp [upd, hn, s4, x14, s5, x5, s6, s2, x2, hb, hs, hc, bne])
        | (refine Tri.draw (by kernel_rfl) (by decide +kernel) ?_; simp [upd, hn, s4, x14, s5, x5, s6, s2, x2, hb, hs, hc, bne])
        | (refine Tri.cond_true ?_ ?_; (focus simp [upd, hn, s4, x14, s5, x5, s6, s2, x2, hb, hs, hc, bne]; done))
        | (refine Tri.cond_false ?_ ?_; (focus simp [upd, hn, s4, x14, s5, x5, s6, s2, x2, hb, hs, hc, bne]; done))
        | (refine Tri.skip ?_; simp only [thenS, blockS])
        | (refine Tri.block_seq ?_)
        | (refine Tri.block_region ?_)
        | (refine Tri.block_cond ?_)
        | (refine CallK.pure (checkR_does (gRec nxr d)) ⟨wR, trivial⟩ ?_; simp [upd, hn, s4, x14, s5, x5, s6, s2, x2, hb, hs, hc, bne])
        | (refine Tri.exit ?_; simp [upd, hn, s4, x14, s5, x5, s6, s2, x2, hb, hs, hc, bne]; first | (rename ∀ st, Tri _ _ _ st _ → _ => hK; first | (apply hK; clear hK) | (clear hK; rename ∀ st, Tri _ _ _ st _ → _ => hK; first | (apply hK; clear hK) | (clear hK; rename ∀ st, Tri _ _ _ st _ → _ => hK; first | (apply hK; clear hK) | (clear hK; rename ∀ st, Tri _ _ _ st _ → _ => hK; first | (apply hK; clear hK) | (clear hK; rename ∀ st, Tri _ _ _ st _ → _ => hK; first | (apply hK; clear hK) | (clear hK; rename ∀ st, Tri _ _ _ st _ → _ => hK; apply hK; clear hK)))))) | skip)
        | (intro β)
        | (rename ∀ st, Tri _ _ _ st _ → _ => hK; apply hK; clear hK))
      refine Tri.ret ⟨.tup [.agg [.int .i64 (gqA nxr d).1, .sl nl1 n1 o1 es1, .sl nl2 n2 o2 es2], .c (.int .i64 0)], by simp [upd, s2], ?_⟩
      exact .tup2 wR (.refl _)
    clear hK
    refine Tri.block (Tri.loop (GInv2 d) (gqD nxr d).1.toNat ?_ ?_)
    · refine ⟨br, b5, b2, gqD nxr d, (gqD nxr d).1, G, .sl true 0 none [], 0, 0, [], ⟨rfl, by simpa [upd] using s4, by simp [upd, gqD] <;> exact rfl, by simpa [upd] using s5, by simpa [upd] using x5, by simp [upd, gqD], by simpa [upd] using s2, by simpa [upd] using x2, ?_⟩, by simpa [GC] using hG, .inl ⟨rfl, 0, none, rfl⟩, ⟨by simp [upd], by simp [upd], by omega, (nxr_le _).1, by simp, by simp [grD], ?_, by simp⟩⟩
      · exact Nat.le_trans (nxr_size _).1 sz
      · intro _
        simpa [gqD] using Nat.le_trans (nxr_size _).1 sz
    · clear hn s4 x14 s5 x5 s6 s2 x2 sz hG
      rintro m st ⟨br, b5, b2, q, n, G, H, t, i, acc, ⟨hn, s4, x14, s5, x5, s6, s2, x2, sz⟩, hG, hH, ⟨s7, s10, i0, nb, bud, eq, len1, len2⟩⟩
      by_cases hin : i < n
      case neg =>
        have hm : m = 0 := by omega
        subst hm
        simp only [gD, List.append_nil] at eq
        repeat (first
          | (refine Tri.seq fun K hK => ?_)
          | (refine Tri.region ?_; simp [upd, hn, s4, x14, s5, x5, s6, s2, x2, s7, s10, hin])
          | (refine Tri.draw (by kernel_rfl) (by decide +kernel) ?_; simp [upd, hn, s4, x14, s5, x5, s6, s2, x2, s7, s10, hin])
          | (refine Tri.cond_true ?_ ?_; (focus simp [upd, hn, s4, x14, s5, x5, s6, s2, x2, s7, s10, hin]; done))
          | (refine Tri.cond_false ?_ ?_; (focus simp [upd, hn, s4, x14, s5, x5, s6, s2, x2, s7, s10, hin]; done))
          | (refine Tri.skip ?_; simp only [thenS, blockS])
          | (refine Tri.block_seq ?_)
          | (refine Tri.block_region ?_)
          | (refine Tri.block_cond ?_)
          | (refine Tri.exit ?_; simp [upd, hn, s4, x14, s5, x5, s6, s2, x2, s7, s10, hin]; first | (rename ∀ st, Tri _ _ _ st _ → _ => hK; first | (apply hK; clear hK) | (clear hK; rename ∀ st, Tri _ _ _ st _ → _ => hK; first | (apply hK; clear hK) | (clear hK; rename ∀ st, Tri _ _ _ st _ → _ => hK; first | (apply hK; clear hK) | (clear hK; rename ∀ st, Tri _ _ _ st _ → _ => hK; first | (apply hK; clear hK) | (clear hK; rename ∀ st, Tri _ _ _ st _ → _ => hK; first | (apply hK; clear hK) | (clear hK; rename ∀ st, Tri _ _ _ st _ → _ => hK; apply hK; clear hK)))))) | skip)
          | (intro β)
          | (rename ∀ st, Tri _ _ _ st _ → _ => hK; apply hK; clear hK))
        apply fin2
        refine ⟨br, b5, b2, n, G, H, ⟨rfl, by simpa [upd] using s4, by simpa [eq] using x14, by simpa [upd] using s5, x5, by simpa [upd] using s6, by simpa [upd] using s2, x2, by simpa [eq] using sz⟩, by simpa [GC] using hG, by simpa [eq, GC] using hH⟩
      obtain ⟨m, rfl⟩ : ∃ m', m = m' + 1 := ⟨m - 1, by omega⟩
      rw [gD] at eq
      cases hb : q.2.2
      case true =>
        rw [if_pos hb] at eq
        simp only [List.append_nil] at eq
        repeat (first
          | (refine Tri.seq fun K hK => ?_)
          | (refine Tri.region ?_; simp [upd, hn, s4, x14, s5, x5, s6, s2, x2, s7, s10, hin, hb])
          | (refine Tri.draw (by kernel_rfl) (by decide +kernel) ?_; simp [upd, hn, s4, x14, s5, x5, s6, s2, x2, s7, s10, hin, hb])
          | (refine Tri.cond_true ?_ ?_; (focus simp [upd, hn, s4, x14, s5, x5, s6, s2, x2, s7, s10, hin, hb]; done))
          | (refine Tri.cond_false ?_ ?_; (focus simp [upd, hn, s4, x14, s5, x5, s6, s2, x2, s7, s10, hin, hb]; done))
          | (refine Tri.skip ?_; simp only [thenS, blockS])
          | (refine Tri.block_seq ?_)
          | (refine Tri.block_region ?_)
          | (refine Tri.block_cond ?_)
          | (refine Tri.exit ?_; simp [upd, hn, s4, x14, s5, x5, s6, s2, x2, s7, s10, hin, hb]; first | (rename ∀ st, Tri _ _ _ st _ → _ => hK; first | (apply hK; clear hK) | (clear hK; rename ∀ st, Tri _ _ _ st _ → _ => hK; first | (apply hK; clear hK) | (clear hK; rename ∀ st, Tri _ _ _ st _ → _ => hK; first | (apply hK; clear hK) | (clear hK; rename ∀ st, Tri _ _ _ st _ → _ => hK; first | (apply hK; clear hK) | (clear hK; rename ∀ st, Tri _ _ _ st _ → _ => hK; first | (apply hK; clear hK) | (clear hK; rename ∀ st, Tri _ _ _ st _ → _ => hK; apply hK; clear hK)))))) | skip)
          | (intro β)
          | (rename ∀ st, Tri _ _ _ st _ → _ => hK; apply hK; clear hK))
        apply fin2
        refine ⟨br, b5, b2, n, G, H, ⟨rfl, by simpa [upd] using s4, by simpa [eq] using x14, by simpa [upd] using s5, x5, by simpa [upd] using s6, by simpa [upd] using s2, x2, by simpa [eq] using sz⟩, by simpa [GC] using hG, by simpa [eq, GC] using hH⟩
      rw [if_neg (by simp [hb])] at eq
      have hw1 : IntKind.i64.wrap (i + 1) = i + 1 := wrap_i64 (by omega) (by omega)
      have len3 := len1 hb
      have hsz3 := nxr3_size q
      rcases hH with ⟨hnil, k0, own, rfl⟩ | ⟨b, hne, rfl, hrw⟩
      · have hacc : acc = [] := by simpa using hnil
        subst hacc
        repeat (first
          | (refine Tri.seq fun K hK => ?_)
          | (refine Tri.region ?_; simp [upd, hn, s4, x14, s5, x5, s6, s2, x2, s7, s10, hin, hb, hw1, hn])
          | (refine Tri.draw (by kernel_rfl) (by decide +kernel) ?_; simp [upd, hn, s4, x14, s5, x5, s6, s2, x2, s7, s10, hin, hb, hw1, hn])
          | (refine Tri.cond_true ?_ ?_; (focus simp [upd, hn, s4, x14, s5, x5, s6, s2, x2, s7, s10, hin, hb, hw1, hn]; done))
          | (refine Tri.cond_false ?_ ?_; (focus simp [upd, hn, s4, x14, s5, x5, s6, s2, x2, s7, s10, hin, hb, hw1, hn]; done))
          | (refine Tri.skip ?_; simp only [thenS, blockS])
          | (refine Tri.block_seq ?_)
          | (refine Tri.block_region ?_)
          | (refine Tri.block_cond ?_)
          | (with_reducible refine CallK.box1 (nxr_does br (nxr (nxr q))) (Wks.refl _) ?_ ?_; (focus (simp [upd, x14]; done)); simp [upd, hn, s4, x14, s5, x5, s6, s2, x2, s7, s10, hin, hb, hw1, hn])
          | (with_reducible refine CallK.box1 (nxr_does br (nxr q)) (Wks.refl _) ?_ ?_; (focus (simp [upd, x14]; done)); simp [upd, hn, s4, x14, s5, x5, s6, s2, x2, s7, s10, hin, hb, hw1, hn])
          | (with_reducible refine CallK.box1 (nxr_does br q) (Wks.refl _) ?_ ?_; (focus (simp [upd, x14]; done)); simp [upd, hn, s4, x14, s5, x5, s6, s2, x2, s7, s10, hin, hb, hw1, hn])
          | (refine Tri.exit ?_; simp [upd, hn, s4, x14, s5, x5, s6, s2, x2, s7, s10, hin, hb, hw1, hn]; first | (rename ∀ st, Tri _ _ _ st _ → _ => hK; first | (apply hK; clear hK) | (clear hK; rename ∀ st, Tri _ _ _ st _ → _ => hK; first | (apply hK; clear hK) | (clear hK; rename ∀ st, Tri _ _ _ st _ → _ => hK; first | (apply hK; clear hK) | (clear hK; rename ∀ st, Tri _ _ _ st _ → _ => hK; first | (apply hK; clear hK) | (clear hK; rename ∀ st, Tri _ _ _ st _ → _ => hK; first | (apply hK; clear hK) | (clear hK; rename ∀ st, Tri _ _ _ st _ → _ => hK; apply hK; clear hK)))))) | skip)
          | (intro β)
          | (rename ∀ st, Tri _ _ _ st _ → _ => hK; apply hK; clear hK))
        refine ⟨m, by omega, br, b5, b2, rd3 nxr q, n, G, _, (gDel nxr t q).slot, i + 1, [] ++ [gDel nxr t q], ⟨rfl, by simpa [upd] using s4, by simp [upd] <;> exact ⟨rfl, rfl⟩, by simpa [upd] using s5, by simp [upd] <;> exact rfl, by simpa [upd] using s6, by simpa [upd] using s2, by simpa [upd] using x2, ?_⟩, by simpa [GC, upd] using hG, .inr ⟨β, by simp, ?_, ?_⟩, ⟨by simp [upd, i64w, gDel], by simp [upd], by omega, nb, by omega, eq.trans ?_, ?_, ?_⟩⟩
        · exact Nat.le_trans hsz3.1 sz
        · simp [i64w, gDel]
        · simp [upd]
        · simp [gDel]
        · intro h; have := hsz3.2 h; simp [rd3]; omega
        · simp
      · have hlen : (acc.length + 1) * 24 ≤ 140737488355328 := by omega
        rw [List.length_map] at hrw
        repeat (first
          | (refine Tri.seq fun K hK => ?_)
          | (refine Tri.region ?_; simp [upd, hn, s4, x14, s5, x5, s6, s2, x2, s7, s10, hin, hb, hw1, hrw, hlen])
          | (refine Tri.draw (by kernel_rfl) (by decide +kernel) ?_; simp [upd, hn, s4, x14, s5, x5, s6, s2, x2, s7, s10, hin, hb, hw1, hrw, hlen])
          | (refine Tri.cond_true ?_ ?_; (focus simp [upd, hn, s4, x14, s5, x5, s6, s2, x2, s7, s10, hin, hb, hw1, hrw, hlen]; done))
          | (refine Tri.cond_false ?_ ?_; (focus simp [upd, hn, s4, x14, s5, x5, s6, s2, x2, s7, s10, hin, hb, hw1, hrw, hlen]; done))
          | (refine Tri.skip ?_; simp only [thenS, blockS])
          | (refine Tri.block_seq ?_)
          | (refine Tri.block_region ?_)
          | (refine Tri.block_cond ?_)
          | (with_reducible refine CallK.box1 (nxr_does br (nxr (nxr q))) (Wks.refl _) ?_ ?_; (focus (simp [upd, x14]; done)); simp [upd, hn, s4, x14, s5, x5, s6, s2, x2, s7, s10, hin, hb, hw1, hrw, hlen])
          | (with_reducible refine CallK.box1 (nxr_does br (nxr q)) (Wks.refl _) ?_ ?_; (focus (simp [upd, x14]; done)); simp [upd, hn, s4, x14, s5, x5, s6, s2, x2, s7, s10, hin, hb, hw1, hrw, hlen])
          | (with_reducible refine CallK.box1 (nxr_does br q) (Wks.refl _) ?_ ?_; (focus (simp [upd, x14]; done)); simp [upd, hn, s4, x14, s5, x5, s6, s2, x2, s7, s10, hin, hb, hw1, hrw, hlen])
          | (refine Tri.exit ?_; simp [upd, hn, s4, x14, s5, x5, s6, s2, x2, s7, s10, hin, hb, hw1, hrw, hlen]; first | (rename ∀ st, Tri _ _ _ st _ → _ => hK; first | (apply hK; clear hK) | (clear hK; rename ∀ st, Tri _ _ _ st _ → _ => hK; first | (apply hK; clear hK) | (clear hK; rename ∀ st, Tri _ _ _ st _ → _ => hK; first | (apply hK; clear hK) | (clear hK; rename ∀ st, Tri _ _ _ st _ → _ => hK; first | (apply hK; clear hK) | (clear hK; rename ∀ st, Tri _ _ _ st _ → _ => hK; first | (apply hK; clear hK) | (clear hK; rename ∀ st, Tri _ _ _ st _ → _ => hK; apply hK; clear hK)))))) | skip)
          | (intro β)
          | (rename ∀ st, Tri _ _ _ st _ → _ => hK; apply hK; clear hK))
        refine ⟨m, by omega, br, b5, b2, rd3 nxr q, n, G, _, (gDel nxr t q).slot, i + 1, acc ++ [gDel nxr t q], ⟨rfl, by simpa [upd] using s4, by simp [upd] <;> exact ⟨rfl, rfl⟩, by simpa [upd] using s5, by simp [upd] <;> exact rfl, by simpa [upd] using s6, by simpa [upd] using s2, by simpa [upd] using x2, ?_⟩, by simpa [GC, upd] using hG, .inr ⟨β, by simp, ?_, ?_⟩, ⟨by simp [upd, i64w, gDel], by simp [upd], by omega, nb, by omega, eq.trans ?_, ?_, ?_⟩⟩
        · exact Nat.le_trans hsz3.1 sz
        · simp [i64w, gDel]
        · simp [upd]
        · simp [gDel]
        · intro h; have := hsz3.2 h; simp [rd3]; omega
        · simp; omega
  clear hK
  refine Tri.block (Tri.loop (GInv1 d) (gqB nxr d).1.toNat ?_ ?_)
  · refine ⟨_, _, _, gqB nxr d, (gqB nxr d).1, .sl true 0 none [], 0, 0, [], ⟨rfl, by simp [upd] <;> exact rfl, by simp [upd, gqB, gqA] <;> exact rfl, by simp [upd] <;> exact rfl, by simp [upd, gqA] <;> exact rfl, by simp [upd, gqB, gqA] <;> exact rfl, by simp [upd] <;> exact rfl, by simp [upd] <;> exact rfl, ?_⟩, .inl ⟨rfl, 0, none, rfl⟩, ⟨by simp [upd], by simp [upd], by omega, (nxr_le _).1, by simp, by simp [grA], ?_, by simp⟩⟩
    · exact Nat.le_trans (nxr_size _).1 (nxr_size (0, d, false)).1
    · intro _
      simpa [gqB, gqA] using Nat.le_trans (nxr_size _).1 (nxr_size (0, d, false)).1
  · rintro m st ⟨br, b5, b2, q, n, G, t, i, acc, ⟨hn, s4, x14, s5, x5, s6, s2, x2, sz⟩, hG, ⟨s7, s8, i0, nb, bud, eq, len1, len2⟩⟩
    by_cases hin : i < n
    case neg =>
      have hm : m = 0 := by omega
      subst hm
      simp only [gA, List.append_nil] at eq
      repeat (first
        | (refine Tri.seq fun K hK => ?_)
        | (refine Tri.region ?_; simp [upd, hn, s4, x14, s5, x5, s6, s2, x2, s7, s8, hin])
        | (refine Tri.draw (by kernel_rfl) (by decide +kernel) ?_; simp [upd, hn, s4, x14, s5, x5, s6, s2, x2, s7, s8, hin])
        | (refine Tri.cond_true ?_ ?_; (focus simp [upd, hn, s4, x14, s5, x5, s6, s2, x2, s7, s8, hin]; done))
        | (refine Tri.cond_false ?_ ?_; (focus simp [upd, hn, s4, x14, s5, x5, s6, s2, x2, s7, s8, hin]; done))
        | (refine Tri.skip ?_; simp only [thenS, blockS])
        | (refine Tri.block_seq ?_)
        | (refine Tri.block_region ?_)
        | (refine Tri.block_cond ?_)
        | (refine Tri.exit ?_; simp [upd, hn, s4, x14, s5, x5, s6, s2, x2, s7, s8, hin]; first | (rename ∀ st, Tri _ _ _ st _ → _ => hK; first | (apply hK; clear hK) | (clear hK; rename ∀ st, Tri _ _ _ st _ → _ => hK; first | (apply hK; clear hK) | (clear hK; rename ∀ st, Tri _ _ _ st _ → _ => hK; first | (apply hK; clear hK) | (clear hK; rename ∀ st, Tri _ _ _ st _ → _ => hK; first | (apply hK; clear hK) | (clear hK; rename ∀ st, Tri _ _ _ st _ → _ => hK; first | (apply hK; clear hK) | (clear hK; rename ∀ st, Tri _ _ _ st _ → _ => hK; apply hK; clear hK)))))) | skip)
        | (intro β)
        | (rename ∀ st, Tri _ _ _ st _ → _ => hK; apply hK; clear hK))
      apply fin
      refine ⟨br, b5, b2, n, G, ⟨rfl, by simpa [upd] using s4, by simpa [eq] using x14, by simpa [upd] using s5, x5, by simpa [upd] using s6, by simpa [upd] using s2, x2, by simpa [eq] using sz⟩, by simpa [eq, GC] using hG⟩
    obtain ⟨m, rfl⟩ : ∃ m', m = m' + 1 := ⟨m - 1, by omega⟩
    rw [gA] at eq
    cases hb : q.2.2
    case true =>
      rw [if_pos hb] at eq
      simp only [List.append_nil] at eq
      repeat (first
        | (refine Tri.seq fun K hK => ?_)
        | (refine Tri.region ?_; simp [upd, hn, s4, x14, s5, x5, s6, s2, x2, s7, s8, hin, hb])
        | (refine Tri.draw (by kernel_rfl) (by decide +kernel) ?_; simp [upd, hn, s4, x14, s5, x5, s6, s2, x2, s7, s8, hin, hb])
        | (refine Tri.cond_true ?_ ?_; (focus simp [upd, hn, s4, x14, s5, x5, s6, s2, x2, s7, s8, hin, hb]; done))
        | (refine Tri.cond_false ?_ ?_; (focus simp [upd, hn, s4, x14, s5, x5, s6, s2, x2, s7, s8, hin, hb]; done))
        | (refine Tri.skip ?_; simp only [thenS, blockS])
        | (refine Tri.block_seq ?_)
        | (refine Tri.block_region ?_)
        | (refine Tri.block_cond ?_)
        | (refine Tri.exit ?_; simp [upd, hn, s4, x14, s5, x5, s6, s2, x2, s7, s8, hin, hb]; first | (rename ∀ st, Tri _ _ _ st _ → _ => hK; first | (apply hK; clear hK) | (clear hK; rename ∀ st, Tri _ _ _ st _ → _ => hK; first | (apply hK; clear hK) | (clear hK; rename ∀ st, Tri _ _ _ st _ → _ => hK; first | (apply hK; clear hK) | (clear hK; rename ∀ st, Tri _ _ _ st _ → _ => hK; first | (apply hK; clear hK) | (clear hK; rename ∀ st, Tri _ _ _ st _ → _ => hK; first | (apply hK; clear hK) | (clear hK; rename ∀ st, Tri _ _ _ st _ → _ => hK; apply hK; clear hK)))))) | skip)
        | (intro β)
        | (rename ∀ st, Tri _ _ _ st _ → _ => hK; apply hK; clear hK))
      apply fin
      refine ⟨br, b5, b2, n, G, ⟨rfl, by simpa [upd] using s4, by simpa [eq] using x14, by simpa [upd] using s5, x5, by simpa [upd] using s6, by simpa [upd] using s2, x2, by simpa [eq] using sz⟩, by simpa [eq, GC] using hG⟩
    rw [if_neg (by simp [hb])] at eq
    have hw1 : IntKind.i64.wrap (i + 1) = i + 1 := wrap_i64 (by omega) (by omega)
    have len3 := len1 hb
    have hsz8 := nxr8_size q
    rcases hG with ⟨hnil, k0, own, rfl⟩ | ⟨b, hne, rfl, hrw⟩
    · have hacc : acc = [] := by simpa using hnil
      subst hacc
      repeat (first
        | (refine Tri.seq fun K hK => ?_)
        | (refine Tri.region ?_; simp [upd, hn, s4, x14, s5, x5, s6, s2, x2, s7, s8, hin, hb, hw1, hn])
        | (refine Tri.draw (by kernel_rfl) (by decide +kernel) ?_; simp [upd, hn, s4, x14, s5, x5, s6, s2, x2, s7, s8, hin, hb, hw1, hn])
        | (refine Tri.cond_true ?_ ?_; (focus simp [upd, hn, s4, x14, s5, x5, s6, s2, x2, s7, s8, hin, hb, hw1, hn]; done))
        | (refine Tri.cond_false ?_ ?_; (focus simp [upd, hn, s4, x14, s5, x5, s6, s2, x2, s7, s8, hin, hb, hw1, hn]; done))
        | (refine Tri.skip ?_; simp only [thenS, blockS])
        | (refine Tri.block_seq ?_)
        | (refine Tri.block_region ?_)
        | (refine Tri.block_cond ?_)
        | (with_reducible refine CallK.box1 (nxr_does br (nxr (nxr (nxr (nxr (nxr (nxr (nxr q)))))))) (Wks.refl _) ?_ ?_; (focus (simp [upd, x14]; done)); simp [upd, hn, s4, x14, s5, x5, s6, s2, x2, s7, s8, hin, hb, hw1, hn])
        | (with_reducible refine CallK.box1 (nxr_does br (nxr (nxr (nxr (nxr (nxr (nxr q))))))) (Wks.refl _) ?_ ?_; (focus (simp [upd, x14]; done)); simp [upd, hn, s4, x14, s5, x5, s6, s2, x2, s7, s8, hin, hb, hw1, hn])
        | (with_reducible refine CallK.box1 (nxr_does br (nxr (nxr (nxr (nxr (nxr q)))))) (Wks.refl _) ?_ ?_; (focus (simp [upd, x14]; done)); simp [upd, hn, s4, x14, s5, x5, s6, s2, x2, s7, s8, hin, hb, hw1, hn])
        | (with_reducible refine CallK.box1 (nxr_does br (nxr (nxr (nxr (nxr q))))) (Wks.refl _) ?_ ?_; (focus (simp [upd, x14]; done)); simp [upd, hn, s4, x14, s5, x5, s6, s2, x2, s7, s8, hin, hb, hw1, hn])
        | (with_reducible refine CallK.box1 (nxr_does br (nxr (nxr (nxr q)))) (Wks.refl _) ?_ ?_; (focus (simp [upd, x14]; done)); simp [upd, hn, s4, x14, s5, x5, s6, s2, x2, s7, s8, hin, hb, hw1, hn])
        | (with_reducible refine CallK.box1 (nxr_does br (nxr (nxr q))) (Wks.refl _) ?_ ?_; (focus (simp [upd, x14]; done)); simp [upd, hn, s4, x14, s5, x5, s6, s2, x2, s7, s8, hin, hb, hw1, hn])
        | (with_reducible refine CallK.box1 (nxr_does br (nxr q)) (Wks.refl _) ?_ ?_; (focus (simp [upd, x14]; done)); simp [upd, hn, s4, x14, s5, x5, s6, s2, x2, s7, s8, hin, hb, hw1, hn])
        | (with_reducible refine CallK.box1 (nxr_does br q) (Wks.refl _) ?_ ?_; (focus (simp [upd, x14]; done)); simp [upd, hn, s4, x14, s5, x5, s6, s2, x2, s7, s8, hin, hb, hw1, hn])
        | (refine Tri.exit ?_; simp [upd, hn, s4, x14, s5, x5, s6, s2, x2, s7, s8, hin, hb, hw1, hn]; first | (rename ∀ st, Tri _ _ _ st _ → _ => hK; first | (apply hK; clear hK) | (clear hK; rename ∀ st, Tri _ _ _ st _ → _ => hK; first | (apply hK; clear hK) | (clear hK; rename ∀ st, Tri _ _ _ st _ → _ => hK; first | (apply hK; clear hK) | (clear hK; rename ∀ st, Tri _ _ _ st _ → _ => hK; first | (apply hK; clear hK) | (clear hK; rename ∀ st, Tri _ _ _ st _ → _ => hK; first | (apply hK; clear hK) | (clear hK; rename ∀ st, Tri _ _ _ st _ → _ => hK; apply hK; clear hK)))))) | skip)
        | (intro β)
        | (rename ∀ st, Tri _ _ _ st _ → _ => hK; apply hK; clear hK))
      refine ⟨m, by omega, br, b5, b2, rd8 nxr q, n, _, (gAtt nxr t q).slot, i + 1, [] ++ [gAtt nxr t q], ⟨rfl, by simpa [upd] using s4, by simp [upd] <;> exact ⟨rfl, rfl⟩, by simpa [upd] using s5, by simp [upd] <;> exact rfl, by simpa [upd] using s6, by simpa [upd] using s2, by simpa [upd] using x2, ?_⟩, .inr ⟨β, by simp, ?_, ?_⟩, ⟨by simp [upd, i64w, gAtt], by simp [upd], by omega, nb, by omega, eq.trans ?_, ?_, ?_⟩⟩
      · exact Nat.le_trans hsz8.1 sz
      · simp [i64w, gAtt]
      · simp [upd]
      · simp [gAtt]
      · intro h; have := hsz8.2 h; simp; omega
      · simp
    · have hlen : (acc.length + 1) * 64 ≤ 140737488355328 := by omega
      rw [List.length_map] at hrw
      repeat (first
        | (refine Tri.seq fun K hK => ?_)
        | (refine Tri.region ?_; simp [upd, hn, s4, x14, s5, x5, s6, s2, x2, s7, s8, hin, hb, hw1, hrw, hlen])
        | (refine Tri.draw (by kernel_rfl) (by decide +kernel) ?_; simp [upd, hn, s4, x14, s5, x5, s6, s2, x2, s7, s8, hin, hb, hw1, hrw, hlen])
        | (refine Tri.cond_true ?_ ?_; (focus simp [upd, hn, s4, x14, s5, x5, s6, s2, x2, s7, s8, hin, hb, hw1, hrw, hlen]; done))
        | (refine Tri.cond_false ?_ ?_; (focus simp [upd, hn, s4, x14, s5, x5, s6, s2, x2, s7, s8, hin, hb, hw1, hrw, hlen]; done))
        | (refine Tri.skip ?_; simp only [thenS, blockS])
        | (refine Tri.block_seq ?_)
        | (refine Tri.block_region ?_)
        | (refine Tri.block_cond ?_)
        | (with_reducible refine CallK.box1 (nxr_does br (nxr (nxr (nxr (nxr (nxr (nxr (nxr q)))))))) (Wks.refl _) ?_ ?_; (focus (simp [upd, x14]; done)); simp [upd, hn, s4, x14, s5, x5, s6, s2, x2, s7, s8, hin, hb, hw1, hrw, hlen])
        | (with_reducible refine CallK.box1 (nxr_does br (nxr (nxr (nxr (nxr (nxr (nxr q))))))) (Wks.refl _) ?_ ?_; (focus (simp [upd, x14]; done)); simp [upd, hn, s4, x14, s5, x5, s6, s2, x2, s7, s8, hin, hb, hw1, hrw, hlen])
        | (with_reducible refine CallK.box1 (nxr_does br (nxr (nxr (nxr (nxr (nxr q)))))) (Wks.refl _) ?_ ?_; (focus (simp [upd, x14]; done)); simp [upd, hn, s4, x14, s5, x5, s6, s2, x2, s7, s8, hin, hb, hw1, hrw, hlen])
        | (with_reducible refine CallK.box1 (nxr_does br (nxr (nxr (nxr (nxr q))))) (Wks.refl _) ?_ ?_; (focus (simp [upd, x14]; done)); simp [upd, hn, s4, x14, s5, x5, s6, s2, x2, s7, s8, hin, hb, hw1, hrw, hlen])
        | (with_reducible refine CallK.box1 (nxr_does br (nxr (nxr (nxr q)))) (Wks.refl _) ?_ ?_; (focus (simp [upd, x14]; done)); simp [upd, hn, s4, x14, s5, x5, s6, s2, x2, s7, s8, hin, hb, hw1, hrw, hlen])
        | (with_reducible refine CallK.box1 (nxr_does br (nxr (nxr q))) (Wks.refl _) ?_ ?_; (focus (simp [upd, x14]; done)); simp [upd, hn, s4, x14, s5, x5, s6, s2, x2, s7, s8, hin, hb, hw1, hrw, hlen])
        | (with_reducible refine CallK.box1 (nxr_does br (nxr q)) (Wks.refl _) ?_ ?_; (focus (simp [upd, x14]; done)); simp [upd, hn, s4, x14, s5, x5, s6, s2, x2, s7, s8, hin, hb, hw1, hrw, hlen])
        | (with_reducible refine CallK.box1 (nxr_does br q) (Wks.refl _) ?_ ?_; (focus (simp [upd, x14]; done)); simp [upd, hn, s4, x14, s5, x5, s6, s2, x2, s7, s8, hin, hb, hw1, hrw, hlen])
        | (refine Tri.exit ?_; simp [upd, hn, s4, x14, s5, x5, s6, s2, x2, s7, s8, hin, hb, hw1, hrw, hlen]; first | (rename ∀ st, Tri _ _ _ st _ → _ => hK; first | (apply hK; clear hK) | (clear hK; rename ∀ st, Tri _ _ _ st _ → _ => hK; first | (apply hK; clear hK) | (clear hK; rename ∀ st, Tri _ _ _ st _ → _ => hK; first | (apply hK; clear hK) | (clear hK; rename ∀ st, Tri _ _ _ st _ → _ => hK; first | (apply hK; clear hK) | (clear hK; rename ∀ st, Tri _ _ _ st _ → _ => hK; first | (apply hK; clear hK) | (clear hK; rename ∀ st, Tri _ _ _ st _ → _ => hK; apply hK; clear hK)))))) | skip)
        | (intro β)
        | (rename ∀ st, Tri _ _ _ st _ → _ => hK; apply hK; clear hK))
      refine ⟨m, by omega, br, b5, b2, rd8 nxr q, n, _, (gAtt nxr t q).slot, i + 1, acc ++ [gAtt nxr t q], ⟨rfl, by simpa [upd] using s4, by simp [upd] <;> exact ⟨rfl, rfl⟩, by simpa [upd] using s5, by simp [upd] <;> exact rfl, by simpa [upd] using s6, by simpa [upd] using s2, by simpa [upd] using x2, ?_⟩, .inr ⟨β, by simp, ?_, ?_⟩, ⟨by simp [upd, i64w, gAtt], by simp [upd], by omega, nb, by omega, eq.trans ?_, ?_, ?_⟩⟩
      · exact Nat.le_trans hsz8.1 sz
      · simp [i64w, gAtt]
      · simp [upd]
      · simp [gAtt]
      · intro h; have := hsz8.2 h; simp; omega
      · simp; omega
end Go.Proofs.Ytcohdlochpjnjaa
end
section
open Go Go.Vm
namespace Go.Proofs.Ytcohdlochpjnjaa
set_option maxRecDepth 100000
set_option maxHeartbeats 4000000
set_option linter.unusedSimpArgs false
theorem gRec_norm (rd : Q3 → Q3) (d : ByteArray) : norm (gRec rd d) = gRec rd d := rfl
theorem gOk_same {rd rd' : Q3 → Q3} (h : Rdr rd) (h' : Rdr rd') {d : ByteArray} (hd : GOk rd d) : GOk rd' d ∧ gRec rd' d = gRec rd d := by
  have e := g_inv_ok h hd
  have h1 := g_enc_ok h' hd.2.2
  have h2 := (g_enc h' hd.2.2).1
  rw [← e] at h1 h2
  exact ⟨h1, by rw [h2, gRec_norm]⟩
theorem decOkR_iff (d : ByteArray) : decOkR d = true ↔ GOk nxr d := by
  unfold decOkR GOk
  rw [← check_iff]
  simp
theorem decodeR_eq (d : ByteArray) : decodeR d = decode d := by
  unfold decodeR decode
  by_cases h : GOk nxr d
  · obtain ⟨h1, h2⟩ := gOk_same nxr_rdr nx_rdr h
    rw [if_pos ((decOkR_iff d).2 h), if_pos ((decOk_iff d).2 h1), recOf_eq, h2]
  · have h' : ¬ GOk nx d := fun h' => h (gOk_same nx_rdr nxr_rdr h').1
    rw [if_neg (fun e => h ((decOkR_iff d).1 e)), if_neg (fun e => h' ((decOk_iff d).1 e))]
theorem decode_cases (d : ByteArray) : (decode d).2 = 0 ∨ (decode d) = (zrec, 10) := by
  unfold decode
  split
  · exact .inl rfl
  · exact .inr rfl
theorem zrec_order : InOrder zrec := (check_iff zrec).1 (by decide)
attribute [local irreducible] Tri Does DoesB Rounds encB check bytesOf sameB decode decodeR
theorem decodes_does (d : ByteArray) : Does Try.prog 3 [.c (.str d)] (.c (.bool true)) := by
  have l0 := awake_does
  refine Does.of_body Try.func3 rfl (by kernel_rfl) rfl rfl (by simp) ?_
  intro E
  by_cases hf : (2000 : Int) < (d.size : Int)
  · repeat (first
      | (refine Tri.seq fun K hK => ?_)
      | (refine Tri.region ?_; simp [upd, hf])
      | (refine Tri.draw (by kernel_rfl) (by decide +kernel) ?_; simp [upd, hf])
      | (refine Tri.cond_true ?_ ?_; (focus simp [upd, hf]; done))
      | (refine Tri.cond_false ?_ ?_; (focus simp [upd, hf]; done))
      | (refine Tri.skip ?_; simp only [thenS, blockS])
      | (refine Tri.block_seq ?_)
      | (refine Tri.block_region ?_)
      | (refine Tri.block_cond ?_)
      | ((with_reducible refine CallK.pure (l0) (Wks.refl _) ?_); simp [upd, hf])
      | (refine Tri.exit ?_; simp [upd, hf]; first | (rename ∀ st, Tri _ _ _ st _ → _ => hK; first | (apply hK; clear hK) | (clear hK; rename ∀ st, Tri _ _ _ st _ → _ => hK; first | (apply hK; clear hK) | (clear hK; rename ∀ st, Tri _ _ _ st _ → _ => hK; first | (apply hK; clear hK) | (clear hK; rename ∀ st, Tri _ _ _ st _ → _ => hK; first | (apply hK; clear hK) | (clear hK; rename ∀ st, Tri _ _ _ st _ → _ => hK; first | (apply hK; clear hK) | (clear hK; rename ∀ st, Tri _ _ _ st _ → _ => hK; apply hK; clear hK)))))) | skip)
      | (intro β)
      | (rename ∀ st, Tri _ _ _ st _ → _ => hK; apply hK; clear hK))
    refine Tri.ret ⟨_, rfl, ?_⟩
    simp [upd]
    exact Wk.refl _
  have hds : d.size ≤ 1073741824 := by omega
  have l1 := decode_does d hds
  have l2 := decodeR_does d hds
  rw [decodeR_eq] at l2
  have ho : InOrder (decode d).1 := by
    rcases decode_cases d with h | h
    · exact (decode_inv h).1
    · rw [h]; exact zrec_order
  have hl1 := ho.al
  have hl2 := ho.dl
  have l3 := same_does (decode d).1 (decode d).1 (by omega) (by omega)
  rw [(sameB_iff (decode d).1 (decode d).1).2 ⟨rfl, rfl, rfl⟩] at l3
  have l4 := encode_does (decode d).1 (fun _ => enc_len ho)
  rw [if_pos ((check_iff _).2 ho)] at l4
  cases he : ((decode d).2 == 0)
  case false =>
    generalize (decode d).2 = e at *
    generalize (decode d).1 = x at *
    simp only [recC] at l1 l2 l3 l4 ⊢
    repeat (first
      | (refine Tri.seq fun K hK => ?_)
      | (refine Tri.region ?_; simp [upd, hf, he, bne])
      | (refine Tri.draw (by kernel_rfl) (by decide +kernel) ?_; simp [upd, hf, he, bne])
      | (refine Tri.cond_true ?_ ?_; (focus simp [upd, hf, he, bne]; done))
      | (refine Tri.cond_false ?_ ?_; (focus simp [upd, hf, he, bne]; done))
      | (refine Tri.skip ?_; simp only [thenS, blockS])
      | (refine Tri.block_seq ?_)
      | (refine Tri.block_region ?_)
      | (refine Tri.block_cond ?_)
      | ((with_reducible refine CallK.pure (l0) (Wks.refl _) ?_); simp [upd, hf, he, bne])
      | ((with_reducible refine CallK.pure (l1) (Wks.refl _) ?_); simp [upd, hf, he, bne])
      | ((with_reducible refine CallK.pure (l2) (Wks.refl _) ?_); simp [upd, hf, he, bne])
      | ((with_reducible refine CallK.pure (l3) (Wks.refl _) ?_); simp [upd, hf, he, bne])
      | ((with_reducible refine CallK.pure (l4) (Wks.refl _) ?_); simp [upd, hf, he, bne])
      | (refine Tri.exit ?_; simp [upd, hf, he, bne]; first | (rename ∀ st, Tri _ _ _ st _ → _ => hK; first | (apply hK; clear hK) | (clear hK; rename ∀ st, Tri _ _ _ st _ → _ => hK; first | (apply hK; clear hK) | (clear hK; rename ∀ st, Tri _ _ _ st _ → _ => hK; first | (apply hK; clear hK) | (clear hK; rename ∀ st, Tri _ _ _ st _ → _ => hK; first | (apply hK; clear hK) | (clear hK; rename ∀ st, Tri _ _ _ st _ → _ => hK; first | (apply hK; clear hK) | (clear hK; rename ∀ st, Tri _ _ _ st _ → _ => hK; apply hK; clear hK)))))) | skip)
      | (intro β)
      | (rename ∀ st, Tri _ _ _ st _ → _ => hK; apply hK; clear hK))
    refine Tri.ret ⟨_, rfl, ?_⟩
    simp [upd]
    exact Wk.refl _
  have hz : (decode d).2 = 0 := by simpa using he
  have hs := (decode_inv hz).2
  rw [hs] at l4
  rw [hz] at l1 l2
  generalize (decode d).1 = x at *
  simp only [recC] at l1 l2 l3 l4 ⊢
  repeat (first
    | (refine Tri.seq fun K hK => ?_)
    | (refine Tri.region ?_; simp [upd, hf, bne])
    | (refine Tri.draw (by kernel_rfl) (by decide +kernel) ?_; simp [upd, hf, bne])
    | (refine Tri.cond_true ?_ ?_; (focus simp [upd, hf, bne]; done))
    | (refine Tri.cond_false ?_ ?_; (focus simp [upd, hf, bne]; done))
    | (refine Tri.skip ?_; simp only [thenS, blockS])
    | (refine Tri.block_seq ?_)
    | (refine Tri.block_region ?_)
    | (refine Tri.block_cond ?_)
    | ((with_reducible refine CallK.pure (l0) (Wks.refl _) ?_); simp [upd, hf, bne])
    | ((with_reducible refine CallK.pure (l1) (Wks.refl _) ?_); simp [upd, hf, bne])
    | ((with_reducible refine CallK.pure (l2) (Wks.refl _) ?_); simp [upd, hf, bne])
    | ((with_reducible refine CallK.pure (l3) (Wks.refl _) ?_); simp [upd, hf, bne])
    | ((with_reducible refine CallK.pure (l4) (Wks.refl _) ?_); simp [upd, hf, bne])
    | (refine Tri.exit ?_; simp [upd, hf, bne]; first | (rename ∀ st, Tri _ _ _ st _ → _ => hK; first | (apply hK; clear hK) | (clear hK; rename ∀ st, Tri _ _ _ st _ → _ => hK; first | (apply hK; clear hK) | (clear hK; rename ∀ st, Tri _ _ _ st _ → _ => hK; first | (apply hK; clear hK) | (clear hK; rename ∀ st, Tri _ _ _ st _ → _ => hK; first | (apply hK; clear hK) | (clear hK; rename ∀ st, Tri _ _ _ st _ → _ => hK; first | (apply hK; clear hK) | (clear hK; rename ∀ st, Tri _ _ _ st _ → _ => hK; apply hK; clear hK)))))) | skip)
    | (intro β)
    | (rename ∀ st, Tri _ _ _ st _ → _ => hK; apply hK; clear hK))
  refine Tri.ret ⟨_, rfl, ?_⟩
  simp [upd]
  exact Wk.refl _
end Go.Proofs.Ytcohdlochpjnjaa
end
section
open Go Go.Vm
open Go.ChangeShapes Go.WideShapes Go.ChangeAt Go.RowKit
namespace Go.Proofs.Ytcohdlochpjnjaa.recordDecodes
set_option linter.unusedVariables false
theorem own : ownKnob Try.prog.godebug = none := by kernel_rfl
set_option maxRecDepth 100000 in
theorem lifted (os : Os) (started : os.Started) (H : Type) (enc : TypeId × Value → H) :
    ReturnsInHanded {} Try.checked os 3 .any (Rows.recordDecodesSpec.pre6 enc Try.prog Try.f3 Rows.recordDecodesRow.domain false) (Rows.recordDecodesSpec.post enc Try.prog Try.f3 false true false false) := by
  refine returnsInHanded_of_change (C := Try.checked) own started (by kernel_rfl) Try.func3
    (ChangeSpec.witness6 (enc := enc) (C := Try.checked) false ⟨#[], #[.string ⟨#[]⟩], []⟩ 8 (by kernel_rfl) (by kernel_rfl) (by kernel_rfl) (by kernel_rfl)) ?_
  intro W base args ds gs before hval0 hW hcnd _
  have hval : ∀ (j : Nat) t v, Try.f3.params[j]? = some t → args[j]? = some v → Value.okWide Try.prog W .any base t v := hval0
  have hW' := hW
  obtain ⟨p, q, hA0, hV, rfl, hfz, hnd⟩ := hW
  have hA : DataW.TrodAll enc Try.prog W 0 (fun _ => true) true Try.f3.params.toList args.toList ds p := hA0
  rw [Try.params3] at hA hval
  obtain ⟨v0, vs0, d0, ds0, p0, q0, hargs0, rfl, rfl, h0, r0⟩ := trodAll_cons hA
  obtain ⟨rfl, rfl, rfl⟩ := trodAll_nil r0
  obtain rfl : args = #[v0] := by cases args; simp_all
  obtain ⟨rfl, rfl⟩ := trodVars_none hV
  obtain ⟨s, rfl, rfl, rfl, hs⟩ := Go.ChangeMaps.open_string (by kernel_rfl) (hval 0 9 v0 rfl rfl) h0
  clear hA0 hval0
  simp only [List.append_nil] at hW'
  have hlt := hW'.lt
  have hD := (decodes_does s).2 (fun b _ => b < W.heap.size) W [.string s] ⟨rfl, fun k hk => match k, hk with
    | 0, _ => .c (.str _)⟩ (fun b _ h => h)
  refine hD.mono fun e W' ⟨u, F', he, hu, hl⟩ => ?_
  subst he
  have hb : Below W.heap.size W W' := ⟨hl.os, hl.tape, hl.output, hl.size, hl.block⟩
  have hu' := hu.inv
  cases hu'
  exact ⟨_, rfl, post_below (pa := ([] ++ [])) (pv := []) hW' hb (by simp) (fun _ _ _ => (trodAll_cons_mk (shut_bool Try.underlying4 _) trodAll_mk0))
    (fun sp hsp => (trodAll_cons_mk (Go.ChangeMaps.shut_string (by kernel_rfl) hs) trodAll_mk0))
    (fun _ _ => rfl) (ok_one (by kernel_rfl) rfl (okWide_bool_mk Try.underlying4 _))⟩
theorem over : Rows.recordDecodesRow.holds Try.pinned (OpenSpec.ofChange Rows.recordDecodesSpec) :=
  OpenClaim.holds_of_wide 3 Try.f3 rfl rfl rfl rfl rfl rfl rfl ⟨rfl, rfl, rfl, rfl, rfl⟩ rfl rfl rfl rfl rfl (by kernel_rfl) Try.func3 (by kernel_rfl)
    (of_decide_eq_true (by kernel_rfl)) (by unfold Func.isWrapper; first | (rw [if_pos (by decide +kernel)]; kernel_rfl) | (rw [if_neg (by decide +kernel)]; exact ⟨rfl, rfl⟩))
    (fun os started H enc _ => lifted os started H enc)
theorem proved : Rows.RecordDecodesSaid :=
  over
end Go.Proofs.Ytcohdlochpjnjaa.recordDecodes
end
