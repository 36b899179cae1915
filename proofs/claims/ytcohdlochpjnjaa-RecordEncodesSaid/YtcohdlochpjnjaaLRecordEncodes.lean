/- For every record: RecordEncodes answers true, and its argument reads afterwards as before; no condition. -/
import Derived.Test.YtcohdlochpjnjaaB4
import Derived.Test.YtcohdlochpjnjaaRows
import Derived.ShutString
set_option linter.all false
section
open Go Go.Vm
namespace Go.Proofs.Ytcohdlochpjnjaa
set_option maxRecDepth 100000
set_option maxHeartbeats 4000000
set_option linter.unusedSimpArgs false
theorem and_same {K : St → Prop} {s t : St} (h : t = s) (hk : K s) : K s ∧ K t := ⟨hk, h ▸ hk⟩
theorem orI_cmp_ne {x y : Int} (l : List Int) (h : (x == y) = false) : decide (orI (cmpI x y :: l) < 0) = decide (x < y) := by
  have := orI_cmp x y l
  simp only [beq_eq_false_iff_ne, ne_eq] at h
  rw [decide_eq_decide, this]
  omega
theorem orI_cmp_eq {x y : Int} (l : List Int) (h : (x == y) = true) : orI (cmpI x y :: l) = orI l := by
  simp only [beq_iff_eq] at h
  rw [orI, if_pos ((cmpI_eq x y).2 h)]
attribute [local irreducible] Tri Does DoesB Rounds check sameB
def inB (n lo hi : Int) : Bool := decide (lo ≤ n) && decide (n ≤ hi)
theorem in_does (n lo hi : Int) : Does Try.prog 48 [.c (.int .i64 n), .c (.int .i64 lo), .c (.int .i64 hi)] (.c (.bool (inB n lo hi))) := by
  refine Does.of_body Try.func48 rfl (by kernel_rfl) rfl rfl (by simp) ?_
  intro E
  unfold inB
  by_cases h1 : lo ≤ n
  · repeat (first
      | (refine Tri.seq fun K hK => ?_)
      | (refine Tri.region ?_; simp [upd, h1])
      | (refine Tri.draw (by kernel_rfl) (by decide +kernel) ?_; simp [upd, h1])
      | (refine Tri.cond_true ?_ ?_; (focus simp [upd, h1]; done))
      | (refine Tri.cond_false ?_ ?_; (focus simp [upd, h1]; done))
      | (refine Tri.skip ?_; simp only [thenS, blockS])
      | (refine Tri.block_seq ?_)
      | (refine Tri.block_region ?_)
      | (refine Tri.block_cond ?_)
      | (refine Tri.exit ?_; simp [upd, h1]; first | (rename ∀ st, Tri _ _ _ st _ → _ => hK; first | (apply hK; clear hK) | (clear hK; rename ∀ st, Tri _ _ _ st _ → _ => hK; first | (apply hK; clear hK) | (clear hK; rename ∀ st, Tri _ _ _ st _ → _ => hK; first | (apply hK; clear hK) | (clear hK; rename ∀ st, Tri _ _ _ st _ → _ => hK; first | (apply hK; clear hK) | (clear hK; rename ∀ st, Tri _ _ _ st _ → _ => hK; first | (apply hK; clear hK) | (clear hK; rename ∀ st, Tri _ _ _ st _ → _ => hK; apply hK; clear hK)))))) | skip)
      | (intro β)
      | (rename ∀ st, Tri _ _ _ st _ → _ => hK; apply hK; clear hK))
    refine Tri.ret ⟨_, rfl, ?_⟩
    simp [upd, h1]
    exact Wk.refl _
  · repeat (first
      | (refine Tri.seq fun K hK => ?_)
      | (refine Tri.region ?_; simp [upd, h1])
      | (refine Tri.draw (by kernel_rfl) (by decide +kernel) ?_; simp [upd, h1])
      | (refine Tri.cond_true ?_ ?_; (focus simp [upd, h1]; done))
      | (refine Tri.cond_false ?_ ?_; (focus simp [upd, h1]; done))
      | (refine Tri.skip ?_; simp only [thenS, blockS])
      | (refine Tri.block_seq ?_)
      | (refine Tri.block_region ?_)
      | (refine Tri.block_cond ?_)
      | (refine Tri.exit ?_; simp [upd, h1]; first | (rename ∀ st, Tri _ _ _ st _ → _ => hK; first | (apply hK; clear hK) | (clear hK; rename ∀ st, Tri _ _ _ st _ → _ => hK; first | (apply hK; clear hK) | (clear hK; rename ∀ st, Tri _ _ _ st _ → _ => hK; first | (apply hK; clear hK) | (clear hK; rename ∀ st, Tri _ _ _ st _ → _ => hK; first | (apply hK; clear hK) | (clear hK; rename ∀ st, Tri _ _ _ st _ → _ => hK; first | (apply hK; clear hK) | (clear hK; rename ∀ st, Tri _ _ _ st _ → _ => hK; apply hK; clear hK)))))) | skip)
      | (intro β)
      | (rename ∀ st, Tri _ _ _ st _ → _ => hK; apply hK; clear hK))
    refine Tri.ret ⟨_, rfl, ?_⟩
    simp [upd, h1]
    exact Wk.refl _
def keysC (a : Att) : List C := [.int .i64 a.slot, .int .i64 a.cslot, .int .i64 a.off, .int .i64 a.frm, .int .i64 a.to, .int .i64 a.flow]
theorem keys_does (a : Att) : Does Try.prog 64 [.agg (attC a)] (.agg (keysC a)) := by
  refine Does.of_body Try.func64 rfl (by kernel_rfl) rfl rfl (by simp) ?_
  intro E
  repeat (first
    | (refine Tri.seq fun K hK => ?_)
    | (refine Tri.region ?_; simp [upd])
    | (refine Tri.draw (by kernel_rfl) (by decide +kernel) ?_; simp [upd])
    | (refine Tri.cond_true ?_ ?_; (focus simp [upd]; done))
    | (refine Tri.cond_false ?_ ?_; (focus simp [upd]; done))
    | (refine Tri.skip ?_; simp only [thenS, blockS])
    | (refine Tri.block_seq ?_)
    | (refine Tri.block_region ?_)
    | (refine Tri.block_cond ?_)
    | (refine Tri.exit ?_; simp [upd]; first | (rename ∀ st, Tri _ _ _ st _ → _ => hK; first | (apply hK; clear hK) | (clear hK; rename ∀ st, Tri _ _ _ st _ → _ => hK; first | (apply hK; clear hK) | (clear hK; rename ∀ st, Tri _ _ _ st _ → _ => hK; first | (apply hK; clear hK) | (clear hK; rename ∀ st, Tri _ _ _ st _ → _ => hK; first | (apply hK; clear hK) | (clear hK; rename ∀ st, Tri _ _ _ st _ → _ => hK; first | (apply hK; clear hK) | (clear hK; rename ∀ st, Tri _ _ _ st _ → _ => hK; apply hK; clear hK)))))) | skip)
    | (intro β)
    | (rename ∀ st, Tri _ _ _ st _ → _ => hK; apply hK; clear hK))
  exact Tri.ret ⟨.agg (keysC a), by simp [upd, keysC], Wk.refl _⟩
theorem less_does (a b : Att) : Does Try.prog 50 [.agg (attC a), .agg (attC b)] (.c (.bool (decide (cmpA a b < 0)))) := by
  refine Does.of_body Try.func50 rfl (by kernel_rfl) rfl rfl (by simp) ?_
  intro E
  have k1 := keys_does a
  have k2 := keys_does b
  unfold cmpA
  simp only [keysC] at k1 k2
  cases e0 : (a.slot == b.slot)
  case false =>
    rw [orI_cmp_ne _ e0]
    repeat (first
      | (refine Tri.seq fun K hK => ?_)
      | (refine Tri.region ?_; simp [upd, e0, bne, orI])
      | (refine Tri.draw2 [5, 6] [0, 1, 2, 3] [4, 5, 6, 7] [] (by kernel_rfl) (by kernel_rfl) (by decide) (by rfl) (by decide +kernel) ?_; simp [upd, e0, bne, orI])
      | (refine Tri.draw (by kernel_rfl) (by decide +kernel) ?_; simp [upd, e0, bne, orI])
      | (refine Tri.cond_true ?_ ?_; (focus simp [upd, e0, bne, orI]; done))
      | (refine Tri.cond_false ?_ ?_; (focus simp [upd, e0, bne, orI]; done))
      | (refine Tri.skip ?_; simp only [thenS, blockS])
      | (refine Tri.block_seq ?_)
      | (refine Tri.block_region ?_)
      | (refine Tri.block_cond ?_)
      | ((with_reducible refine CallK.pure (k1) (Wks.refl _) ?_); simp [upd, e0, bne, orI])
      | ((with_reducible refine CallK.pure (k2) (Wks.refl _) ?_); simp [upd, e0, bne, orI])
      | (refine Tri.block_loop 8 ?_)
      | (refine Rounds.step ?_)
      | (refine Tri.exit ?_; simp [upd, e0, bne, orI]; first | (rename ∀ st, Tri _ _ _ st _ → _ => hK; first | (apply hK; clear hK) | (clear hK; rename ∀ st, Tri _ _ _ st _ → _ => hK; first | (apply hK; clear hK) | (clear hK; rename ∀ st, Tri _ _ _ st _ → _ => hK; first | (apply hK; clear hK) | (clear hK; rename ∀ st, Tri _ _ _ st _ → _ => hK; first | (apply hK; clear hK) | (clear hK; rename ∀ st, Tri _ _ _ st _ → _ => hK; first | (apply hK; clear hK) | (clear hK; rename ∀ st, Tri _ _ _ st _ → _ => hK; apply hK; clear hK)))))) | skip)
      | (intro β)
      | (rename ∀ st, Tri _ _ _ st _ → _ => hK; apply hK; clear hK))
    refine Tri.ret ⟨_, rfl, ?_⟩
    simp [upd]
    exact Wk.refl _
  rw [orI_cmp_eq _ e0]
  cases e1 : (a.cslot == b.cslot)
  case false =>
    rw [orI_cmp_ne _ e1]
    repeat (first
      | (refine Tri.seq fun K hK => ?_)
      | (refine Tri.region ?_; simp [upd, e0, e1, bne, orI])
      | (refine Tri.draw2 [5, 6] [0, 1, 2, 3] [4, 5, 6, 7] [] (by kernel_rfl) (by kernel_rfl) (by decide) (by rfl) (by decide +kernel) ?_; simp [upd, e0, e1, bne, orI])
      | (refine Tri.draw (by kernel_rfl) (by decide +kernel) ?_; simp [upd, e0, e1, bne, orI])
      | (refine Tri.cond_true ?_ ?_; (focus simp [upd, e0, e1, bne, orI]; done))
      | (refine Tri.cond_false ?_ ?_; (focus simp [upd, e0, e1, bne, orI]; done))
      | (refine Tri.skip ?_; simp only [thenS, blockS])
      | (refine Tri.block_seq ?_)
      | (refine Tri.block_region ?_)
      | (refine Tri.block_cond ?_)
      | ((with_reducible refine CallK.pure (k1) (Wks.refl _) ?_); simp [upd, e0, e1, bne, orI])
      | ((with_reducible refine CallK.pure (k2) (Wks.refl _) ?_); simp [upd, e0, e1, bne, orI])
      | (refine Tri.block_loop 8 ?_)
      | (refine Rounds.step ?_)
      | (refine Tri.exit ?_; simp [upd, e0, e1, bne, orI]; first | (rename ∀ st, Tri _ _ _ st _ → _ => hK; first | (apply hK; clear hK) | (clear hK; rename ∀ st, Tri _ _ _ st _ → _ => hK; first | (apply hK; clear hK) | (clear hK; rename ∀ st, Tri _ _ _ st _ → _ => hK; first | (apply hK; clear hK) | (clear hK; rename ∀ st, Tri _ _ _ st _ → _ => hK; first | (apply hK; clear hK) | (clear hK; rename ∀ st, Tri _ _ _ st _ → _ => hK; first | (apply hK; clear hK) | (clear hK; rename ∀ st, Tri _ _ _ st _ → _ => hK; apply hK; clear hK)))))) | skip)
      | (intro β)
      | (rename ∀ st, Tri _ _ _ st _ → _ => hK; apply hK; clear hK))
    refine Tri.ret ⟨_, rfl, ?_⟩
    simp [upd]
    exact Wk.refl _
  rw [orI_cmp_eq _ e1]
  cases e2 : (a.off == b.off)
  case false =>
    rw [orI_cmp_ne _ e2]
    repeat (first
      | (refine Tri.seq fun K hK => ?_)
      | (refine Tri.region ?_; simp [upd, e0, e1, e2, bne, orI])
      | (refine Tri.draw2 [5, 6] [0, 1, 2, 3] [4, 5, 6, 7] [] (by kernel_rfl) (by kernel_rfl) (by decide) (by rfl) (by decide +kernel) ?_; simp [upd, e0, e1, e2, bne, orI])
      | (refine Tri.draw (by kernel_rfl) (by decide +kernel) ?_; simp [upd, e0, e1, e2, bne, orI])
      | (refine Tri.cond_true ?_ ?_; (focus simp [upd, e0, e1, e2, bne, orI]; done))
      | (refine Tri.cond_false ?_ ?_; (focus simp [upd, e0, e1, e2, bne, orI]; done))
      | (refine Tri.skip ?_; simp only [thenS, blockS])
      | (refine Tri.block_seq ?_)
      | (refine Tri.block_region ?_)
      | (refine Tri.block_cond ?_)
      | ((with_reducible refine CallK.pure (k1) (Wks.refl _) ?_); simp [upd, e0, e1, e2, bne, orI])
      | ((with_reducible refine CallK.pure (k2) (Wks.refl _) ?_); simp [upd, e0, e1, e2, bne, orI])
      | (refine Tri.block_loop 8 ?_)
      | (refine Rounds.step ?_)
      | (refine Tri.exit ?_; simp [upd, e0, e1, e2, bne, orI]; first | (rename ∀ st, Tri _ _ _ st _ → _ => hK; first | (apply hK; clear hK) | (clear hK; rename ∀ st, Tri _ _ _ st _ → _ => hK; first | (apply hK; clear hK) | (clear hK; rename ∀ st, Tri _ _ _ st _ → _ => hK; first | (apply hK; clear hK) | (clear hK; rename ∀ st, Tri _ _ _ st _ → _ => hK; first | (apply hK; clear hK) | (clear hK; rename ∀ st, Tri _ _ _ st _ → _ => hK; first | (apply hK; clear hK) | (clear hK; rename ∀ st, Tri _ _ _ st _ → _ => hK; apply hK; clear hK)))))) | skip)
      | (intro β)
      | (rename ∀ st, Tri _ _ _ st _ → _ => hK; apply hK; clear hK))
    refine Tri.ret ⟨_, rfl, ?_⟩
    simp [upd]
    exact Wk.refl _
  rw [orI_cmp_eq _ e2]
  cases e3 : (a.frm == b.frm)
  case false =>
    rw [orI_cmp_ne _ e3]
    repeat (first
      | (refine Tri.seq fun K hK => ?_)
      | (refine Tri.region ?_; simp [upd, e0, e1, e2, e3, bne, orI])
      | (refine Tri.draw2 [5, 6] [0, 1, 2, 3] [4, 5, 6, 7] [] (by kernel_rfl) (by kernel_rfl) (by decide) (by rfl) (by decide +kernel) ?_; simp [upd, e0, e1, e2, e3, bne, orI])
      | (refine Tri.draw (by kernel_rfl) (by decide +kernel) ?_; simp [upd, e0, e1, e2, e3, bne, orI])
      | (refine Tri.cond_true ?_ ?_; (focus simp [upd, e0, e1, e2, e3, bne, orI]; done))
      | (refine Tri.cond_false ?_ ?_; (focus simp [upd, e0, e1, e2, e3, bne, orI]; done))
      | (refine Tri.skip ?_; simp only [thenS, blockS])
      | (refine Tri.block_seq ?_)
      | (refine Tri.block_region ?_)
      | (refine Tri.block_cond ?_)
      | ((with_reducible refine CallK.pure (k1) (Wks.refl _) ?_); simp [upd, e0, e1, e2, e3, bne, orI])
      | ((with_reducible refine CallK.pure (k2) (Wks.refl _) ?_); simp [upd, e0, e1, e2, e3, bne, orI])
      | (refine Tri.block_loop 8 ?_)
      | (refine Rounds.step ?_)
      | (refine Tri.exit ?_; simp [upd, e0, e1, e2, e3, bne, orI]; first | (rename ∀ st, Tri _ _ _ st _ → _ => hK; first | (apply hK; clear hK) | (clear hK; rename ∀ st, Tri _ _ _ st _ → _ => hK; first | (apply hK; clear hK) | (clear hK; rename ∀ st, Tri _ _ _ st _ → _ => hK; first | (apply hK; clear hK) | (clear hK; rename ∀ st, Tri _ _ _ st _ → _ => hK; first | (apply hK; clear hK) | (clear hK; rename ∀ st, Tri _ _ _ st _ → _ => hK; first | (apply hK; clear hK) | (clear hK; rename ∀ st, Tri _ _ _ st _ → _ => hK; apply hK; clear hK)))))) | skip)
      | (intro β)
      | (rename ∀ st, Tri _ _ _ st _ → _ => hK; apply hK; clear hK))
    refine Tri.ret ⟨_, rfl, ?_⟩
    simp [upd]
    exact Wk.refl _
  rw [orI_cmp_eq _ e3]
  cases e4 : (a.to == b.to)
  case false =>
    rw [orI_cmp_ne _ e4]
    repeat (first
      | (refine Tri.seq fun K hK => ?_)
      | (refine Tri.region ?_; simp [upd, e0, e1, e2, e3, e4, bne, orI])
      | (refine Tri.draw2 [5, 6] [0, 1, 2, 3] [4, 5, 6, 7] [] (by kernel_rfl) (by kernel_rfl) (by decide) (by rfl) (by decide +kernel) ?_; simp [upd, e0, e1, e2, e3, e4, bne, orI])
      | (refine Tri.draw (by kernel_rfl) (by decide +kernel) ?_; simp [upd, e0, e1, e2, e3, e4, bne, orI])
      | (refine Tri.cond_true ?_ ?_; (focus simp [upd, e0, e1, e2, e3, e4, bne, orI]; done))
      | (refine Tri.cond_false ?_ ?_; (focus simp [upd, e0, e1, e2, e3, e4, bne, orI]; done))
      | (refine Tri.skip ?_; simp only [thenS, blockS])
      | (refine Tri.block_seq ?_)
      | (refine Tri.block_region ?_)
      | (refine Tri.block_cond ?_)
      | ((with_reducible refine CallK.pure (k1) (Wks.refl _) ?_); simp [upd, e0, e1, e2, e3, e4, bne, orI])
      | ((with_reducible refine CallK.pure (k2) (Wks.refl _) ?_); simp [upd, e0, e1, e2, e3, e4, bne, orI])
      | (refine Tri.block_loop 8 ?_)
      | (refine Rounds.step ?_)
      | (refine Tri.exit ?_; simp [upd, e0, e1, e2, e3, e4, bne, orI]; first | (rename ∀ st, Tri _ _ _ st _ → _ => hK; first | (apply hK; clear hK) | (clear hK; rename ∀ st, Tri _ _ _ st _ → _ => hK; first | (apply hK; clear hK) | (clear hK; rename ∀ st, Tri _ _ _ st _ → _ => hK; first | (apply hK; clear hK) | (clear hK; rename ∀ st, Tri _ _ _ st _ → _ => hK; first | (apply hK; clear hK) | (clear hK; rename ∀ st, Tri _ _ _ st _ → _ => hK; first | (apply hK; clear hK) | (clear hK; rename ∀ st, Tri _ _ _ st _ → _ => hK; apply hK; clear hK)))))) | skip)
      | (intro β)
      | (rename ∀ st, Tri _ _ _ st _ → _ => hK; apply hK; clear hK))
    refine Tri.ret ⟨_, rfl, ?_⟩
    simp [upd]
    exact Wk.refl _
  rw [orI_cmp_eq _ e4]
  cases e5 : (a.flow == b.flow)
  case false =>
    rw [orI_cmp_ne _ e5]
    repeat (first
      | (refine Tri.seq fun K hK => ?_)
      | (refine Tri.region ?_; simp [upd, e0, e1, e2, e3, e4, e5, bne, orI])
      | (refine Tri.draw2 [5, 6] [0, 1, 2, 3] [4, 5, 6, 7] [] (by kernel_rfl) (by kernel_rfl) (by decide) (by rfl) (by decide +kernel) ?_; simp [upd, e0, e1, e2, e3, e4, e5, bne, orI])
      | (refine Tri.draw (by kernel_rfl) (by decide +kernel) ?_; simp [upd, e0, e1, e2, e3, e4, e5, bne, orI])
      | (refine Tri.cond_true ?_ ?_; (focus simp [upd, e0, e1, e2, e3, e4, e5, bne, orI]; done))
      | (refine Tri.cond_false ?_ ?_; (focus simp [upd, e0, e1, e2, e3, e4, e5, bne, orI]; done))
      | (refine Tri.skip ?_; simp only [thenS, blockS])
      | (refine Tri.block_seq ?_)
      | (refine Tri.block_region ?_)
      | (refine Tri.block_cond ?_)
      | ((with_reducible refine CallK.pure (k1) (Wks.refl _) ?_); simp [upd, e0, e1, e2, e3, e4, e5, bne, orI])
      | ((with_reducible refine CallK.pure (k2) (Wks.refl _) ?_); simp [upd, e0, e1, e2, e3, e4, e5, bne, orI])
      | (refine Tri.block_loop 8 ?_)
      | (refine Rounds.step ?_)
      | (refine Tri.exit ?_; simp [upd, e0, e1, e2, e3, e4, e5, bne, orI]; first | (rename ∀ st, Tri _ _ _ st _ → _ => hK; first | (apply hK; clear hK) | (clear hK; rename ∀ st, Tri _ _ _ st _ → _ => hK; first | (apply hK; clear hK) | (clear hK; rename ∀ st, Tri _ _ _ st _ → _ => hK; first | (apply hK; clear hK) | (clear hK; rename ∀ st, Tri _ _ _ st _ → _ => hK; first | (apply hK; clear hK) | (clear hK; rename ∀ st, Tri _ _ _ st _ → _ => hK; first | (apply hK; clear hK) | (clear hK; rename ∀ st, Tri _ _ _ st _ → _ => hK; apply hK; clear hK)))))) | skip)
      | (intro β)
      | (rename ∀ st, Tri _ _ _ st _ → _ => hK; apply hK; clear hK))
    refine Tri.ret ⟨_, rfl, ?_⟩
    simp [upd]
    exact Wk.refl _
  rw [orI_cmp_eq _ e5]
  repeat (first
    | (refine Tri.seq fun K hK => ?_)
    | (refine Tri.region ?_; simp [upd, e0, e1, e2, e3, e4, e5, bne, orI])
    | (refine Tri.draw2 [5, 6] [0, 1, 2, 3] [4, 5, 6, 7] [] (by kernel_rfl) (by kernel_rfl) (by decide) (by rfl) (by decide +kernel) ?_; simp [upd, e0, e1, e2, e3, e4, e5, bne, orI])
    | (refine Tri.draw (by kernel_rfl) (by decide +kernel) ?_; simp [upd, e0, e1, e2, e3, e4, e5, bne, orI])
    | (refine Tri.cond_true ?_ ?_; (focus simp [upd, e0, e1, e2, e3, e4, e5, bne, orI]; done))
    | (refine Tri.cond_false ?_ ?_; (focus simp [upd, e0, e1, e2, e3, e4, e5, bne, orI]; done))
    | (refine Tri.skip ?_; simp only [thenS, blockS])
    | (refine Tri.block_seq ?_)
    | (refine Tri.block_region ?_)
    | (refine Tri.block_cond ?_)
    | ((with_reducible refine CallK.pure (k1) (Wks.refl _) ?_); simp [upd, e0, e1, e2, e3, e4, e5, bne, orI])
    | ((with_reducible refine CallK.pure (k2) (Wks.refl _) ?_); simp [upd, e0, e1, e2, e3, e4, e5, bne, orI])
    | (refine Tri.block_loop 8 ?_)
    | (refine Rounds.step ?_)
    | (refine Tri.exit ?_; simp [upd, e0, e1, e2, e3, e4, e5, bne, orI]; first | (rename ∀ st, Tri _ _ _ st _ → _ => hK; first | (apply hK; clear hK) | (clear hK; rename ∀ st, Tri _ _ _ st _ → _ => hK; first | (apply hK; clear hK) | (clear hK; rename ∀ st, Tri _ _ _ st _ → _ => hK; first | (apply hK; clear hK) | (clear hK; rename ∀ st, Tri _ _ _ st _ → _ => hK; first | (apply hK; clear hK) | (clear hK; rename ∀ st, Tri _ _ _ st _ → _ => hK; first | (apply hK; clear hK) | (clear hK; rename ∀ st, Tri _ _ _ st _ → _ => hK; apply hK; clear hK)))))) | skip)
    | (intro β)
    | (rename ∀ st, Tri _ _ _ st _ → _ => hK; apply hK; clear hK))
  refine Tri.ret ⟨_, rfl, ?_⟩
  simp [upd]
  exact Wk.refl _
end Go.Proofs.Ytcohdlochpjnjaa
end
section
open Go Go.Vm
namespace Go.Proofs.Ytcohdlochpjnjaa
set_option maxRecDepth 100000
set_option maxHeartbeats 4000000
set_option linter.unusedSimpArgs false
theorem inB_below (n hi e : Int) (h : hi + 1 = e) : inB n 0 hi = belowB n e := by
  unfold inB belowB
  rw [Bool.eq_iff_iff]
  simp only [Bool.and_eq_true, decide_eq_true_eq]
  omega
theorem in0_does (n hi e : Int) (h : hi + 1 = e) : Does Try.prog 48 [.c (.int .i64 n), .c (.int .i64 0), .c (.int .i64 hi)] (.c (.bool (belowB n e))) := inB_below n hi e h ▸ in_does n 0 hi
theorem in14_does (n : Int) : Does Try.prog 48 [.c (.int .i64 n), .c (.int .i64 1), .c (.int .i64 4)] (.c (.bool (decide (1 ≤ n) && decide (n ≤ 4)))) := in_does n 1 4
attribute [local irreducible] Tri Does DoesB Rounds check sameB inB
theorem attR_does (r : Rec) (a : Att) (h0 : 0 ≤ r.slots) (h1 : r.slots ≤ 4096) : Does Try.prog 49 [.agg (recC r), .agg (attC a)] (.c (.bool (attOk a r.slots))) := by
  refine Does.of_body Try.func49 rfl (by kernel_rfl) rfl rfl (by simp) ?_
  intro E
  have hw : IntKind.i64.wrap (r.slots - 1) = r.slots - 1 := wrap_i64 (by omega) (by omega)
  have i1 := in0_does a.slot (r.slots - 1) r.slots (by omega)
  have i2 := in0_does a.frame 1048575 1048576 (by omega)
  have i3 := in0_does a.cslot 511 512 (by omega)
  have i4 := in0_does a.off 15 16 (by omega)
  have i5 := in0_does a.frm 31 32 (by omega)
  have i6 := in0_does a.to 31 32 (by omega)
  have i7 := in0_does a.flow 255 256 (by omega)
  have i8 := in14_does a.out
  simp only [recC]
  unfold attOk
  cases h1 : belowB a.slot r.slots
  case false =>
    repeat (first
      | (refine Tri.seq fun K hK => ?_)
      | (refine Tri.region ?_; simp [upd, hw, h1])
      | (refine Tri.draw (by kernel_rfl) (by decide +kernel) ?_; simp [upd, hw, h1])
      | (refine Tri.cond_true ?_ ?_; (focus simp [upd, hw, h1]; done))
      | (refine Tri.cond_false ?_ ?_; (focus simp [upd, hw, h1]; done))
      | (refine Tri.skip ?_; simp only [thenS, blockS])
      | (refine Tri.block_seq ?_)
      | (refine Tri.block_region ?_)
      | (refine Tri.block_cond ?_)
      | ((with_reducible refine CallK.pure (i1) (Wks.refl _) ?_); simp [upd, hw, h1])
      | ((with_reducible refine CallK.pure (i2) (Wks.refl _) ?_); simp [upd, hw, h1])
      | ((with_reducible refine CallK.pure (i3) (Wks.refl _) ?_); simp [upd, hw, h1])
      | ((with_reducible refine CallK.pure (i4) (Wks.refl _) ?_); simp [upd, hw, h1])
      | ((with_reducible refine CallK.pure (i5) (Wks.refl _) ?_); simp [upd, hw, h1])
      | ((with_reducible refine CallK.pure (i6) (Wks.refl _) ?_); simp [upd, hw, h1])
      | ((with_reducible refine CallK.pure (i7) (Wks.refl _) ?_); simp [upd, hw, h1])
      | ((with_reducible refine CallK.pure (i8) (Wks.refl _) ?_); simp [upd, hw, h1])
      | (refine Tri.exit ?_; simp [upd, hw, h1]; first | (rename ∀ st, Tri _ _ _ st _ → _ => hK; first | (apply hK; clear hK) | (clear hK; rename ∀ st, Tri _ _ _ st _ → _ => hK; first | (apply hK; clear hK) | (clear hK; rename ∀ st, Tri _ _ _ st _ → _ => hK; first | (apply hK; clear hK) | (clear hK; rename ∀ st, Tri _ _ _ st _ → _ => hK; first | (apply hK; clear hK) | (clear hK; rename ∀ st, Tri _ _ _ st _ → _ => hK; first | (apply hK; clear hK) | (clear hK; rename ∀ st, Tri _ _ _ st _ → _ => hK; apply hK; clear hK)))))) | skip)
      | (intro β)
      | (rename ∀ st, Tri _ _ _ st _ → _ => hK; apply hK; clear hK))
    refine Tri.ret ⟨_, rfl, ?_⟩
    simp [upd]
    exact Wk.refl _
  cases h2 : belowB a.frame 1048576
  case false =>
    repeat (first
      | (refine Tri.seq fun K hK => ?_)
      | (refine Tri.region ?_; simp [upd, hw, h1, h2])
      | (refine Tri.draw (by kernel_rfl) (by decide +kernel) ?_; simp [upd, hw, h1, h2])
      | (refine Tri.cond_true ?_ ?_; (focus simp [upd, hw, h1, h2]; done))
      | (refine Tri.cond_false ?_ ?_; (focus simp [upd, hw, h1, h2]; done))
      | (refine Tri.skip ?_; simp only [thenS, blockS])
      | (refine Tri.block_seq ?_)
      | (refine Tri.block_region ?_)
      | (refine Tri.block_cond ?_)
      | ((with_reducible refine CallK.pure (i1) (Wks.refl _) ?_); simp [upd, hw, h1, h2])
      | ((with_reducible refine CallK.pure (i2) (Wks.refl _) ?_); simp [upd, hw, h1, h2])
      | ((with_reducible refine CallK.pure (i3) (Wks.refl _) ?_); simp [upd, hw, h1, h2])
      | ((with_reducible refine CallK.pure (i4) (Wks.refl _) ?_); simp [upd, hw, h1, h2])
      | ((with_reducible refine CallK.pure (i5) (Wks.refl _) ?_); simp [upd, hw, h1, h2])
      | ((with_reducible refine CallK.pure (i6) (Wks.refl _) ?_); simp [upd, hw, h1, h2])
      | ((with_reducible refine CallK.pure (i7) (Wks.refl _) ?_); simp [upd, hw, h1, h2])
      | ((with_reducible refine CallK.pure (i8) (Wks.refl _) ?_); simp [upd, hw, h1, h2])
      | (refine Tri.exit ?_; simp [upd, hw, h1, h2]; first | (rename ∀ st, Tri _ _ _ st _ → _ => hK; first | (apply hK; clear hK) | (clear hK; rename ∀ st, Tri _ _ _ st _ → _ => hK; first | (apply hK; clear hK) | (clear hK; rename ∀ st, Tri _ _ _ st _ → _ => hK; first | (apply hK; clear hK) | (clear hK; rename ∀ st, Tri _ _ _ st _ → _ => hK; first | (apply hK; clear hK) | (clear hK; rename ∀ st, Tri _ _ _ st _ → _ => hK; first | (apply hK; clear hK) | (clear hK; rename ∀ st, Tri _ _ _ st _ → _ => hK; apply hK; clear hK)))))) | skip)
      | (intro β)
      | (rename ∀ st, Tri _ _ _ st _ → _ => hK; apply hK; clear hK))
    refine Tri.ret ⟨_, rfl, ?_⟩
    simp [upd]
    exact Wk.refl _
  cases h3 : belowB a.cslot 512
  case false =>
    repeat (first
      | (refine Tri.seq fun K hK => ?_)
      | (refine Tri.region ?_; simp [upd, hw, h1, h2, h3])
      | (refine Tri.draw (by kernel_rfl) (by decide +kernel) ?_; simp [upd, hw, h1, h2, h3])
      | (refine Tri.cond_true ?_ ?_; (focus simp [upd, hw, h1, h2, h3]; done))
      | (refine Tri.cond_false ?_ ?_; (focus simp [upd, hw, h1, h2, h3]; done))
      | (refine Tri.skip ?_; simp only [thenS, blockS])
      | (refine Tri.block_seq ?_)
      | (refine Tri.block_region ?_)
      | (refine Tri.block_cond ?_)
      | ((with_reducible refine CallK.pure (i1) (Wks.refl _) ?_); simp [upd, hw, h1, h2, h3])
      | ((with_reducible refine CallK.pure (i2) (Wks.refl _) ?_); simp [upd, hw, h1, h2, h3])
      | ((with_reducible refine CallK.pure (i3) (Wks.refl _) ?_); simp [upd, hw, h1, h2, h3])
      | ((with_reducible refine CallK.pure (i4) (Wks.refl _) ?_); simp [upd, hw, h1, h2, h3])
      | ((with_reducible refine CallK.pure (i5) (Wks.refl _) ?_); simp [upd, hw, h1, h2, h3])
      | ((with_reducible refine CallK.pure (i6) (Wks.refl _) ?_); simp [upd, hw, h1, h2, h3])
      | ((with_reducible refine CallK.pure (i7) (Wks.refl _) ?_); simp [upd, hw, h1, h2, h3])
      | ((with_reducible refine CallK.pure (i8) (Wks.refl _) ?_); simp [upd, hw, h1, h2, h3])
      | (refine Tri.exit ?_; simp [upd, hw, h1, h2, h3]; first | (rename ∀ st, Tri _ _ _ st _ → _ => hK; first | (apply hK; clear hK) | (clear hK; rename ∀ st, Tri _ _ _ st _ → _ => hK; first | (apply hK; clear hK) | (clear hK; rename ∀ st, Tri _ _ _ st _ → _ => hK; first | (apply hK; clear hK) | (clear hK; rename ∀ st, Tri _ _ _ st _ → _ => hK; first | (apply hK; clear hK) | (clear hK; rename ∀ st, Tri _ _ _ st _ → _ => hK; first | (apply hK; clear hK) | (clear hK; rename ∀ st, Tri _ _ _ st _ → _ => hK; apply hK; clear hK)))))) | skip)
      | (intro β)
      | (rename ∀ st, Tri _ _ _ st _ → _ => hK; apply hK; clear hK))
    refine Tri.ret ⟨_, rfl, ?_⟩
    simp [upd]
    exact Wk.refl _
  cases h4 : belowB a.off 16
  case false =>
    repeat (first
      | (refine Tri.seq fun K hK => ?_)
      | (refine Tri.region ?_; simp [upd, hw, h1, h2, h3, h4])
      | (refine Tri.draw (by kernel_rfl) (by decide +kernel) ?_; simp [upd, hw, h1, h2, h3, h4])
      | (refine Tri.cond_true ?_ ?_; (focus simp [upd, hw, h1, h2, h3, h4]; done))
      | (refine Tri.cond_false ?_ ?_; (focus simp [upd, hw, h1, h2, h3, h4]; done))
      | (refine Tri.skip ?_; simp only [thenS, blockS])
      | (refine Tri.block_seq ?_)
      | (refine Tri.block_region ?_)
      | (refine Tri.block_cond ?_)
      | ((with_reducible refine CallK.pure (i1) (Wks.refl _) ?_); simp [upd, hw, h1, h2, h3, h4])
      | ((with_reducible refine CallK.pure (i2) (Wks.refl _) ?_); simp [upd, hw, h1, h2, h3, h4])
      | ((with_reducible refine CallK.pure (i3) (Wks.refl _) ?_); simp [upd, hw, h1, h2, h3, h4])
      | ((with_reducible refine CallK.pure (i4) (Wks.refl _) ?_); simp [upd, hw, h1, h2, h3, h4])
      | ((with_reducible refine CallK.pure (i5) (Wks.refl _) ?_); simp [upd, hw, h1, h2, h3, h4])
      | ((with_reducible refine CallK.pure (i6) (Wks.refl _) ?_); simp [upd, hw, h1, h2, h3, h4])
      | ((with_reducible refine CallK.pure (i7) (Wks.refl _) ?_); simp [upd, hw, h1, h2, h3, h4])
      | ((with_reducible refine CallK.pure (i8) (Wks.refl _) ?_); simp [upd, hw, h1, h2, h3, h4])
      | (refine Tri.exit ?_; simp [upd, hw, h1, h2, h3, h4]; first | (rename ∀ st, Tri _ _ _ st _ → _ => hK; first | (apply hK; clear hK) | (clear hK; rename ∀ st, Tri _ _ _ st _ → _ => hK; first | (apply hK; clear hK) | (clear hK; rename ∀ st, Tri _ _ _ st _ → _ => hK; first | (apply hK; clear hK) | (clear hK; rename ∀ st, Tri _ _ _ st _ → _ => hK; first | (apply hK; clear hK) | (clear hK; rename ∀ st, Tri _ _ _ st _ → _ => hK; first | (apply hK; clear hK) | (clear hK; rename ∀ st, Tri _ _ _ st _ → _ => hK; apply hK; clear hK)))))) | skip)
      | (intro β)
      | (rename ∀ st, Tri _ _ _ st _ → _ => hK; apply hK; clear hK))
    refine Tri.ret ⟨_, rfl, ?_⟩
    simp [upd]
    exact Wk.refl _
  cases h5 : belowB a.frm 32
  case false =>
    repeat (first
      | (refine Tri.seq fun K hK => ?_)
      | (refine Tri.region ?_; simp [upd, hw, h1, h2, h3, h4, h5])
      | (refine Tri.draw (by kernel_rfl) (by decide +kernel) ?_; simp [upd, hw, h1, h2, h3, h4, h5])
      | (refine Tri.cond_true ?_ ?_; (focus simp [upd, hw, h1, h2, h3, h4, h5]; done))
      | (refine Tri.cond_false ?_ ?_; (focus simp [upd, hw, h1, h2, h3, h4, h5]; done))
      | (refine Tri.skip ?_; simp only [thenS, blockS])
      | (refine Tri.block_seq ?_)
      | (refine Tri.block_region ?_)
      | (refine Tri.block_cond ?_)
      | ((with_reducible refine CallK.pure (i1) (Wks.refl _) ?_); simp [upd, hw, h1, h2, h3, h4, h5])
      | ((with_reducible refine CallK.pure (i2) (Wks.refl _) ?_); simp [upd, hw, h1, h2, h3, h4, h5])
      | ((with_reducible refine CallK.pure (i3) (Wks.refl _) ?_); simp [upd, hw, h1, h2, h3, h4, h5])
      | ((with_reducible refine CallK.pure (i4) (Wks.refl _) ?_); simp [upd, hw, h1, h2, h3, h4, h5])
      | ((with_reducible refine CallK.pure (i5) (Wks.refl _) ?_); simp [upd, hw, h1, h2, h3, h4, h5])
      | ((with_reducible refine CallK.pure (i6) (Wks.refl _) ?_); simp [upd, hw, h1, h2, h3, h4, h5])
      | ((with_reducible refine CallK.pure (i7) (Wks.refl _) ?_); simp [upd, hw, h1, h2, h3, h4, h5])
      | ((with_reducible refine CallK.pure (i8) (Wks.refl _) ?_); simp [upd, hw, h1, h2, h3, h4, h5])
      | (refine Tri.exit ?_; simp [upd, hw, h1, h2, h3, h4, h5]; first | (rename ∀ st, Tri _ _ _ st _ → _ => hK; first | (apply hK; clear hK) | (clear hK; rename ∀ st, Tri _ _ _ st _ → _ => hK; first | (apply hK; clear hK) | (clear hK; rename ∀ st, Tri _ _ _ st _ → _ => hK; first | (apply hK; clear hK) | (clear hK; rename ∀ st, Tri _ _ _ st _ → _ => hK; first | (apply hK; clear hK) | (clear hK; rename ∀ st, Tri _ _ _ st _ → _ => hK; first | (apply hK; clear hK) | (clear hK; rename ∀ st, Tri _ _ _ st _ → _ => hK; apply hK; clear hK)))))) | skip)
      | (intro β)
      | (rename ∀ st, Tri _ _ _ st _ → _ => hK; apply hK; clear hK))
    refine Tri.ret ⟨_, rfl, ?_⟩
    simp [upd]
    exact Wk.refl _
  cases h6 : belowB a.to 32
  case false =>
    repeat (first
      | (refine Tri.seq fun K hK => ?_)
      | (refine Tri.region ?_; simp [upd, hw, h1, h2, h3, h4, h5, h6])
      | (refine Tri.draw (by kernel_rfl) (by decide +kernel) ?_; simp [upd, hw, h1, h2, h3, h4, h5, h6])
      | (refine Tri.cond_true ?_ ?_; (focus simp [upd, hw, h1, h2, h3, h4, h5, h6]; done))
      | (refine Tri.cond_false ?_ ?_; (focus simp [upd, hw, h1, h2, h3, h4, h5, h6]; done))
      | (refine Tri.skip ?_; simp only [thenS, blockS])
      | (refine Tri.block_seq ?_)
      | (refine Tri.block_region ?_)
      | (refine Tri.block_cond ?_)
      | ((with_reducible refine CallK.pure (i1) (Wks.refl _) ?_); simp [upd, hw, h1, h2, h3, h4, h5, h6])
      | ((with_reducible refine CallK.pure (i2) (Wks.refl _) ?_); simp [upd, hw, h1, h2, h3, h4, h5, h6])
      | ((with_reducible refine CallK.pure (i3) (Wks.refl _) ?_); simp [upd, hw, h1, h2, h3, h4, h5, h6])
      | ((with_reducible refine CallK.pure (i4) (Wks.refl _) ?_); simp [upd, hw, h1, h2, h3, h4, h5, h6])
      | ((with_reducible refine CallK.pure (i5) (Wks.refl _) ?_); simp [upd, hw, h1, h2, h3, h4, h5, h6])
      | ((with_reducible refine CallK.pure (i6) (Wks.refl _) ?_); simp [upd, hw, h1, h2, h3, h4, h5, h6])
      | ((with_reducible refine CallK.pure (i7) (Wks.refl _) ?_); simp [upd, hw, h1, h2, h3, h4, h5, h6])
      | ((with_reducible refine CallK.pure (i8) (Wks.refl _) ?_); simp [upd, hw, h1, h2, h3, h4, h5, h6])
      | (refine Tri.exit ?_; simp [upd, hw, h1, h2, h3, h4, h5, h6]; first | (rename ∀ st, Tri _ _ _ st _ → _ => hK; first | (apply hK; clear hK) | (clear hK; rename ∀ st, Tri _ _ _ st _ → _ => hK; first | (apply hK; clear hK) | (clear hK; rename ∀ st, Tri _ _ _ st _ → _ => hK; first | (apply hK; clear hK) | (clear hK; rename ∀ st, Tri _ _ _ st _ → _ => hK; first | (apply hK; clear hK) | (clear hK; rename ∀ st, Tri _ _ _ st _ → _ => hK; first | (apply hK; clear hK) | (clear hK; rename ∀ st, Tri _ _ _ st _ → _ => hK; apply hK; clear hK)))))) | skip)
      | (intro β)
      | (rename ∀ st, Tri _ _ _ st _ → _ => hK; apply hK; clear hK))
    refine Tri.ret ⟨_, rfl, ?_⟩
    simp [upd]
    exact Wk.refl _
  cases h7 : (a.frm == a.to)
  case true =>
    repeat (first
      | (refine Tri.seq fun K hK => ?_)
      | (refine Tri.region ?_; simp [upd, hw, h1, h2, h3, h4, h5, h6, h7, bne])
      | (refine Tri.draw (by kernel_rfl) (by decide +kernel) ?_; simp [upd, hw, h1, h2, h3, h4, h5, h6, h7, bne])
      | (refine Tri.cond_true ?_ ?_; (focus simp [upd, hw, h1, h2, h3, h4, h5, h6, h7, bne]; done))
      | (refine Tri.cond_false ?_ ?_; (focus simp [upd, hw, h1, h2, h3, h4, h5, h6, h7, bne]; done))
      | (refine Tri.skip ?_; simp only [thenS, blockS])
      | (refine Tri.block_seq ?_)
      | (refine Tri.block_region ?_)
      | (refine Tri.block_cond ?_)
      | ((with_reducible refine CallK.pure (i1) (Wks.refl _) ?_); simp [upd, hw, h1, h2, h3, h4, h5, h6, h7, bne])
      | ((with_reducible refine CallK.pure (i2) (Wks.refl _) ?_); simp [upd, hw, h1, h2, h3, h4, h5, h6, h7, bne])
      | ((with_reducible refine CallK.pure (i3) (Wks.refl _) ?_); simp [upd, hw, h1, h2, h3, h4, h5, h6, h7, bne])
      | ((with_reducible refine CallK.pure (i4) (Wks.refl _) ?_); simp [upd, hw, h1, h2, h3, h4, h5, h6, h7, bne])
      | ((with_reducible refine CallK.pure (i5) (Wks.refl _) ?_); simp [upd, hw, h1, h2, h3, h4, h5, h6, h7, bne])
      | ((with_reducible refine CallK.pure (i6) (Wks.refl _) ?_); simp [upd, hw, h1, h2, h3, h4, h5, h6, h7, bne])
      | ((with_reducible refine CallK.pure (i7) (Wks.refl _) ?_); simp [upd, hw, h1, h2, h3, h4, h5, h6, h7, bne])
      | ((with_reducible refine CallK.pure (i8) (Wks.refl _) ?_); simp [upd, hw, h1, h2, h3, h4, h5, h6, h7, bne])
      | (refine Tri.exit ?_; simp [upd, hw, h1, h2, h3, h4, h5, h6, h7, bne]; first | (rename ∀ st, Tri _ _ _ st _ → _ => hK; first | (apply hK; clear hK) | (clear hK; rename ∀ st, Tri _ _ _ st _ → _ => hK; first | (apply hK; clear hK) | (clear hK; rename ∀ st, Tri _ _ _ st _ → _ => hK; first | (apply hK; clear hK) | (clear hK; rename ∀ st, Tri _ _ _ st _ → _ => hK; first | (apply hK; clear hK) | (clear hK; rename ∀ st, Tri _ _ _ st _ → _ => hK; first | (apply hK; clear hK) | (clear hK; rename ∀ st, Tri _ _ _ st _ → _ => hK; apply hK; clear hK)))))) | skip)
      | (intro β)
      | (rename ∀ st, Tri _ _ _ st _ → _ => hK; apply hK; clear hK))
    refine Tri.ret ⟨_, rfl, ?_⟩
    simp [upd]
    exact Wk.refl _
  cases h8 : belowB a.flow 256
  case false =>
    repeat (first
      | (refine Tri.seq fun K hK => ?_)
      | (refine Tri.region ?_; simp [upd, hw, h1, h2, h3, h4, h5, h6, h7, h8, bne])
      | (refine Tri.draw (by kernel_rfl) (by decide +kernel) ?_; simp [upd, hw, h1, h2, h3, h4, h5, h6, h7, h8, bne])
      | (refine Tri.cond_true ?_ ?_; (focus simp [upd, hw, h1, h2, h3, h4, h5, h6, h7, h8, bne]; done))
      | (refine Tri.cond_false ?_ ?_; (focus simp [upd, hw, h1, h2, h3, h4, h5, h6, h7, h8, bne]; done))
      | (refine Tri.skip ?_; simp only [thenS, blockS])
      | (refine Tri.block_seq ?_)
      | (refine Tri.block_region ?_)
      | (refine Tri.block_cond ?_)
      | ((with_reducible refine CallK.pure (i1) (Wks.refl _) ?_); simp [upd, hw, h1, h2, h3, h4, h5, h6, h7, h8, bne])
      | ((with_reducible refine CallK.pure (i2) (Wks.refl _) ?_); simp [upd, hw, h1, h2, h3, h4, h5, h6, h7, h8, bne])
      | ((with_reducible refine CallK.pure (i3) (Wks.refl _) ?_); simp [upd, hw, h1, h2, h3, h4, h5, h6, h7, h8, bne])
      | ((with_reducible refine CallK.pure (i4) (Wks.refl _) ?_); simp [upd, hw, h1, h2, h3, h4, h5, h6, h7, h8, bne])
      | ((with_reducible refine CallK.pure (i5) (Wks.refl _) ?_); simp [upd, hw, h1, h2, h3, h4, h5, h6, h7, h8, bne])
      | ((with_reducible refine CallK.pure (i6) (Wks.refl _) ?_); simp [upd, hw, h1, h2, h3, h4, h5, h6, h7, h8, bne])
      | ((with_reducible refine CallK.pure (i7) (Wks.refl _) ?_); simp [upd, hw, h1, h2, h3, h4, h5, h6, h7, h8, bne])
      | ((with_reducible refine CallK.pure (i8) (Wks.refl _) ?_); simp [upd, hw, h1, h2, h3, h4, h5, h6, h7, h8, bne])
      | (refine Tri.exit ?_; simp [upd, hw, h1, h2, h3, h4, h5, h6, h7, h8, bne]; first | (rename ∀ st, Tri _ _ _ st _ → _ => hK; first | (apply hK; clear hK) | (clear hK; rename ∀ st, Tri _ _ _ st _ → _ => hK; first | (apply hK; clear hK) | (clear hK; rename ∀ st, Tri _ _ _ st _ → _ => hK; first | (apply hK; clear hK) | (clear hK; rename ∀ st, Tri _ _ _ st _ → _ => hK; first | (apply hK; clear hK) | (clear hK; rename ∀ st, Tri _ _ _ st _ → _ => hK; first | (apply hK; clear hK) | (clear hK; rename ∀ st, Tri _ _ _ st _ → _ => hK; apply hK; clear hK)))))) | skip)
      | (intro β)
      | (rename ∀ st, Tri _ _ _ st _ → _ => hK; apply hK; clear hK))
    refine Tri.ret ⟨_, rfl, ?_⟩
    simp [upd]
    exact Wk.refl _
  repeat (first
    | (refine Tri.seq fun K hK => ?_)
    | (refine Tri.region ?_; simp [upd, hw, h1, h2, h3, h4, h5, h6, h7, h8, bne])
    | (refine Tri.draw (by kernel_rfl) (by decide +kernel) ?_; simp [upd, hw, h1, h2, h3, h4, h5, h6, h7, h8, bne])
    | (refine Tri.cond_true ?_ ?_; (focus simp [upd, hw, h1, h2, h3, h4, h5, h6, h7, h8, bne]; done))
    | (refine Tri.cond_false ?_ ?_; (focus simp [upd, hw, h1, h2, h3, h4, h5, h6, h7, h8, bne]; done))
    | (refine Tri.skip ?_; simp only [thenS, blockS])
    | (refine Tri.block_seq ?_)
    | (refine Tri.block_region ?_)
    | (refine Tri.block_cond ?_)
    | ((with_reducible refine CallK.pure (i1) (Wks.refl _) ?_); simp [upd, hw, h1, h2, h3, h4, h5, h6, h7, h8, bne])
    | ((with_reducible refine CallK.pure (i2) (Wks.refl _) ?_); simp [upd, hw, h1, h2, h3, h4, h5, h6, h7, h8, bne])
    | ((with_reducible refine CallK.pure (i3) (Wks.refl _) ?_); simp [upd, hw, h1, h2, h3, h4, h5, h6, h7, h8, bne])
    | ((with_reducible refine CallK.pure (i4) (Wks.refl _) ?_); simp [upd, hw, h1, h2, h3, h4, h5, h6, h7, h8, bne])
    | ((with_reducible refine CallK.pure (i5) (Wks.refl _) ?_); simp [upd, hw, h1, h2, h3, h4, h5, h6, h7, h8, bne])
    | ((with_reducible refine CallK.pure (i6) (Wks.refl _) ?_); simp [upd, hw, h1, h2, h3, h4, h5, h6, h7, h8, bne])
    | ((with_reducible refine CallK.pure (i7) (Wks.refl _) ?_); simp [upd, hw, h1, h2, h3, h4, h5, h6, h7, h8, bne])
    | ((with_reducible refine CallK.pure (i8) (Wks.refl _) ?_); simp [upd, hw, h1, h2, h3, h4, h5, h6, h7, h8, bne])
    | (refine Tri.exit ?_; simp [upd, hw, h1, h2, h3, h4, h5, h6, h7, h8, bne]; first | (rename ∀ st, Tri _ _ _ st _ → _ => hK; first | (apply hK; clear hK) | (clear hK; rename ∀ st, Tri _ _ _ st _ → _ => hK; first | (apply hK; clear hK) | (clear hK; rename ∀ st, Tri _ _ _ st _ → _ => hK; first | (apply hK; clear hK) | (clear hK; rename ∀ st, Tri _ _ _ st _ → _ => hK; first | (apply hK; clear hK) | (clear hK; rename ∀ st, Tri _ _ _ st _ → _ => hK; first | (apply hK; clear hK) | (clear hK; rename ∀ st, Tri _ _ _ st _ → _ => hK; apply hK; clear hK)))))) | skip)
    | (intro β)
    | (rename ∀ st, Tri _ _ _ st _ → _ => hK; apply hK; clear hK))
  refine Tri.ret ⟨_, rfl, ?_⟩
  simp [upd]
  exact Wk.refl _
structure KI (r : Rec) (st : St) (b1 : Nat) : Prop where
  hn : st.n = 152
  s1 : st.sl 1 = .c (.box 1 b1 0)
  x1 : st.bx 1 = some (b1, [.int .i64 r.slots, .sl r.an 8 none (r.atts.map attC), .sl r.dn 3 none (r.dels.map delC)])
/-- The first i attempts are in order. -/
def UpA (r : Rec) (i : Nat) : Prop := (∀ k (_ : k < r.atts.length), k < i → attOk r.atts[k] r.slots = true) ∧ ∀ k l (_ : k < r.atts.length) (_ : l < r.atts.length), k < l → l < i → okA r.atts[k] r.atts[l]
def UpD (r : Rec) (i : Nat) : Prop := (∀ k (_ : k < r.dels.length), k < i → delOk r.dels[k] r.slots) ∧ ∀ k l (_ : k < r.dels.length) (_ : l < r.dels.length), k < l → l < i → ltD r.dels[k] r.dels[l]
theorem UpA.all {r : Rec} (h : UpA r r.atts.length) : AttsP r.slots r.atts :=
  ⟨fun a ha => by obtain ⟨k, hk, rfl⟩ := List.getElem_of_mem ha; exact h.1 k hk hk, List.pairwise_iff_getElem.2 fun k l hk hl hkl => h.2 k l hk hl hkl hl⟩
theorem UpD.all {r : Rec} (h : UpD r r.dels.length) : DelsP r.slots r.dels :=
  ⟨fun a ha => by obtain ⟨k, hk, rfl⟩ := List.getElem_of_mem ha; exact h.1 k hk hk, List.pairwise_iff_getElem.2 fun k l hk hl hkl => h.2 k l hk hl hkl hl⟩
theorem UpA.succ {r : Rec} {i : Nat} (h : UpA r i) (hi : i < r.atts.length) (ho : attOk r.atts[i] r.slots = true) (hk : ∀ k (_ : k < r.atts.length), k < i → okA r.atts[k] r.atts[i]) : UpA r (i + 1) := by
  refine ⟨fun k hkl hki => ?_, fun k l hkl hll hlt hli => ?_⟩
  · rcases Nat.lt_succ_iff_lt_or_eq.1 hki with h' | rfl
    · exact h.1 k hkl h'
    · exact ho
  · rcases Nat.lt_succ_iff_lt_or_eq.1 hli with h' | rfl
    · exact h.2 k l hkl hll hlt h'
    · exact hk k hkl hlt
theorem UpD.succ {r : Rec} {i : Nat} (h : UpD r i) (hi : i < r.dels.length) (ho : delOk r.dels[i] r.slots) (hk : ∀ k (_ : k < r.dels.length), k < i → ltD r.dels[k] r.dels[i]) : UpD r (i + 1) := by
  refine ⟨fun k hkl hki => ?_, fun k l hkl hll hlt hli => ?_⟩
  · rcases Nat.lt_succ_iff_lt_or_eq.1 hki with h' | rfl
    · exact h.1 k hkl h'
    · exact ho
  · rcases Nat.lt_succ_iff_lt_or_eq.1 hli with h' | rfl
    · exact h.2 k l hkl hll hlt h'
    · exact hk k hkl hlt
theorem UpA.ltA {r : Rec} {p : Nat} (h : UpA r (p + 1)) (hp : p + 1 < r.atts.length) (hl : cmpA r.atts[p] r.atts[p + 1] < 0) : ∀ k (_ : k < r.atts.length), k < p + 1 → ltA r.atts[k] r.atts[p + 1] := by
  intro k hk hkp
  have h1 := (cmpA_lt _ _).1 hl
  rcases Nat.lt_succ_iff_lt_or_eq.1 hkp with h' | rfl
  · exact ltA_trans (h.2 k p hk (by omega) h' (by omega)).1 h1
  · exact h1
theorem not_order {r : Rec} (h : ¬ InOrder r) : check r = 1 := by
  have : ¬ check r = 0 := fun e => h ((check_iff r).1 e)
  unfold check at this ⊢
  split <;> simp_all
theorem bad_att {r : Rec} (i : Nat) (hi : i < r.atts.length) (h : attOk r.atts[i] r.slots = false) : check r = 1 :=
  not_order fun ho => by have := ho.atts.1 _ (List.getElem_mem hi); rw [h] at this; cases this
theorem bad_pair {r : Rec} (i j : Nat) (hi : i < r.atts.length) (hj : j < i) (h : ¬ okA r.atts[j] r.atts[i]) : check r = 1 :=
  not_order fun ho => h (List.pairwise_iff_getElem.1 ho.atts.2 j i (by omega) hi hj)
theorem bad_del {r : Rec} (i : Nat) (hi : i < r.dels.length) (h : ¬ delOk r.dels[i] r.slots) : check r = 1 :=
  not_order fun ho => h (ho.dels.1 _ (List.getElem_mem hi))
theorem bad_dpair {r : Rec} (i j : Nat) (hi : i < r.dels.length) (hj : j < i) (h : ¬ ltD r.dels[j] r.dels[i]) : check r = 1 :=
  not_order fun ho => h (List.pairwise_iff_getElem.1 ho.dels.2 j i (by omega) hi hj)
def KInv1 (r : Rec) (m : Nat) (st : St) : Prop := ∃ b1 i, KI r st b1 ∧ m + i = r.atts.length ∧ st.sl 3 = .c (.int .i64 (i : Nat)) ∧ UpA r i
def KEnd1 (r : Rec) (st : St) : Prop := ∃ b1, KI r st b1 ∧ UpA r r.atts.length
def KInv2 (r : Rec) (i : Nat) (b4 : Nat) (a : Att) (m : Nat) (st : St) : Prop := ∃ (b1 : Nat) (j : Int), KI r st b1 ∧ st.sl 4 = .c (.box 4 b4 0) ∧ st.bx 4 = some (b4, attC a) ∧ st.sl 3 = .c (.int .i64 (i : Nat)) ∧ st.sl 5 = .c (.int .i64 j) ∧ (m : Int) = j + 1 ∧ j < i ∧ ∀ k (_ : k < r.atts.length), j < (k : Int) → k < i → r.atts[k].frm ≠ a.frm
def KEnd2 (r : Rec) (i : Nat) (a : Att) (st : St) : Prop := ∃ b1, KI r st b1 ∧ st.sl 3 = .c (.int .i64 (i : Nat)) ∧ ∀ k (_ : k < r.atts.length), k < i → ¬ (r.atts[k].slot = a.slot ∧ r.atts[k].frm = a.frm)
def KInv3 (r : Rec) (m : Nat) (st : St) : Prop := ∃ b1 i, KI r st b1 ∧ m + i = r.dels.length ∧ st.sl 6 = .c (.int .i64 (i : Nat)) ∧ UpD r i
theorem ltD_trans {a b c : Del} (h1 : ltD a b) (h2 : ltD b c) : ltD a c := by
  unfold ltD at *
  omega
theorem checkR_does (r : Rec) : Does Try.prog 19 [.agg (recC r)] (.c (.int .i64 (check r))) := by
  refine Does.of_body Try.func19 rfl (by kernel_rfl) rfl rfl (by simp) ?_
  intro E
  have i0 := in0_does r.slots 4096 4097 (by omega)
  have hck := check_iff r
  simp only [recC]
  cases g1 : belowB r.slots 4097
  case false =>
    rw [not_order (r := r) fun h => by
      have := h.s0; have := h.s1
      simp [belowB] at g1; omega]
    repeat (first
      | (refine Tri.seq fun K hK => ?_)
      | (refine Tri.region ?_; simp [upd, g1])
      | (refine Tri.draw (by kernel_rfl) (by decide +kernel) ?_; simp [upd, g1])
      | (refine Tri.cond_true ?_ ?_; (focus simp [upd, g1]; done))
      | (refine Tri.cond_false ?_ ?_; (focus simp [upd, g1]; done))
      | (refine Tri.skip ?_; simp only [thenS, blockS])
      | (refine Tri.block_seq ?_)
      | (refine Tri.block_region ?_)
      | (refine Tri.block_cond ?_)
      | ((with_reducible refine CallK.pure (i0) (Wks.refl _) ?_); simp [upd, g1])
      | (refine Tri.exit ?_; simp [upd, g1]; first | (rename ∀ st, Tri _ _ _ st _ → _ => hK; first | (apply hK; clear hK) | (clear hK; rename ∀ st, Tri _ _ _ st _ → _ => hK; first | (apply hK; clear hK) | (clear hK; rename ∀ st, Tri _ _ _ st _ → _ => hK; first | (apply hK; clear hK) | (clear hK; rename ∀ st, Tri _ _ _ st _ → _ => hK; first | (apply hK; clear hK) | (clear hK; rename ∀ st, Tri _ _ _ st _ → _ => hK; first | (apply hK; clear hK) | (clear hK; rename ∀ st, Tri _ _ _ st _ → _ => hK; apply hK; clear hK)))))) | skip)
      | (intro β)
      | (rename ∀ st, Tri _ _ _ st _ → _ => hK; apply hK; clear hK))
    refine Tri.ret ⟨_, rfl, ?_⟩
    simp [upd]
    exact Wk.refl _
  by_cases g2 : (65536 : Int) < (r.atts.length : Int)
  · rw [not_order (r := r) fun h => by have := h.al; omega]
    repeat (first
      | (refine Tri.seq fun K hK => ?_)
      | (refine Tri.region ?_; simp [upd, g1, g2])
      | (refine Tri.draw (by kernel_rfl) (by decide +kernel) ?_; simp [upd, g1, g2])
      | (refine Tri.cond_true ?_ ?_; (focus simp [upd, g1, g2]; done))
      | (refine Tri.cond_false ?_ ?_; (focus simp [upd, g1, g2]; done))
      | (refine Tri.skip ?_; simp only [thenS, blockS])
      | (refine Tri.block_seq ?_)
      | (refine Tri.block_region ?_)
      | (refine Tri.block_cond ?_)
      | ((with_reducible refine CallK.pure (i0) (Wks.refl _) ?_); simp [upd, g1, g2])
      | (refine Tri.exit ?_; simp [upd, g1, g2]; first | (rename ∀ st, Tri _ _ _ st _ → _ => hK; first | (apply hK; clear hK) | (clear hK; rename ∀ st, Tri _ _ _ st _ → _ => hK; first | (apply hK; clear hK) | (clear hK; rename ∀ st, Tri _ _ _ st _ → _ => hK; first | (apply hK; clear hK) | (clear hK; rename ∀ st, Tri _ _ _ st _ → _ => hK; first | (apply hK; clear hK) | (clear hK; rename ∀ st, Tri _ _ _ st _ → _ => hK; first | (apply hK; clear hK) | (clear hK; rename ∀ st, Tri _ _ _ st _ → _ => hK; apply hK; clear hK)))))) | skip)
      | (intro β)
      | (rename ∀ st, Tri _ _ _ st _ → _ => hK; apply hK; clear hK))
    refine Tri.ret ⟨_, rfl, ?_⟩
    simp [upd]
    exact Wk.refl _
  by_cases g3 : (65536 : Int) < (r.dels.length : Int)
  · rw [not_order (r := r) fun h => by have := h.dl; omega]
    repeat (first
      | (refine Tri.seq fun K hK => ?_)
      | (refine Tri.region ?_; simp [upd, g1, g2, g3])
      | (refine Tri.draw (by kernel_rfl) (by decide +kernel) ?_; simp [upd, g1, g2, g3])
      | (refine Tri.cond_true ?_ ?_; (focus simp [upd, g1, g2, g3]; done))
      | (refine Tri.cond_false ?_ ?_; (focus simp [upd, g1, g2, g3]; done))
      | (refine Tri.skip ?_; simp only [thenS, blockS])
      | (refine Tri.block_seq ?_)
      | (refine Tri.block_region ?_)
      | (refine Tri.block_cond ?_)
      | ((with_reducible refine CallK.pure (i0) (Wks.refl _) ?_); simp [upd, g1, g2, g3])
      | (refine Tri.exit ?_; simp [upd, g1, g2, g3]; first | (rename ∀ st, Tri _ _ _ st _ → _ => hK; first | (apply hK; clear hK) | (clear hK; rename ∀ st, Tri _ _ _ st _ → _ => hK; first | (apply hK; clear hK) | (clear hK; rename ∀ st, Tri _ _ _ st _ → _ => hK; first | (apply hK; clear hK) | (clear hK; rename ∀ st, Tri _ _ _ st _ → _ => hK; first | (apply hK; clear hK) | (clear hK; rename ∀ st, Tri _ _ _ st _ → _ => hK; first | (apply hK; clear hK) | (clear hK; rename ∀ st, Tri _ _ _ st _ → _ => hK; apply hK; clear hK)))))) | skip)
      | (intro β)
      | (rename ∀ st, Tri _ _ _ st _ → _ => hK; apply hK; clear hK))
    refine Tri.ret ⟨_, rfl, ?_⟩
    simp [upd]
    exact Wk.refl _
  have hs : 0 ≤ r.slots ∧ r.slots < 4097 := by simpa [belowB] using g1
  repeat (first
    | (refine Tri.seq fun K hK => ?_)
    | (refine Tri.region ?_; simp [upd, g1, g2, g3])
    | (refine Tri.draw (by kernel_rfl) (by decide +kernel) ?_; simp [upd, g1, g2, g3])
    | (refine Tri.cond_true ?_ ?_; (focus simp [upd, g1, g2, g3]; done))
    | (refine Tri.cond_false ?_ ?_; (focus simp [upd, g1, g2, g3]; done))
    | (refine Tri.skip ?_; simp only [thenS, blockS])
    | (refine Tri.block_seq ?_)
    | (refine Tri.block_region ?_)
    | (refine Tri.block_cond ?_)
    | ((with_reducible refine CallK.pure (i0) (Wks.refl _) ?_); simp [upd, g1, g2, g3])
    | (refine Tri.exit ?_; simp [upd, g1, g2, g3]; first | (rename ∀ st, Tri _ _ _ st _ → _ => hK; first | (apply hK; clear hK) | (clear hK; rename ∀ st, Tri _ _ _ st _ → _ => hK; first | (apply hK; clear hK) | (clear hK; rename ∀ st, Tri _ _ _ st _ → _ => hK; first | (apply hK; clear hK) | (clear hK; rename ∀ st, Tri _ _ _ st _ → _ => hK; first | (apply hK; clear hK) | (clear hK; rename ∀ st, Tri _ _ _ st _ → _ => hK; first | (apply hK; clear hK) | (clear hK; rename ∀ st, Tri _ _ _ st _ → _ => hK; apply hK; clear hK)))))) | skip)
    | (intro β)
    | (rename ∀ st, Tri _ _ _ st _ → _ => hK; apply hK; clear hK))
  rename ∀ st, Tri _ _ _ st _ → _ => hK
  have fin := fun (st : St) (h : KEnd1 r st) => hK st ?tail
  case tail =>
    obtain ⟨b1, ⟨hn, s1, x1⟩, hA⟩ := h
    clear hK
    repeat (first
      | (refine Tri.seq fun K hK => ?_)
      | (refine Tri.region ?_; simp [upd, hn, s1, x1])
      | (refine Tri.draw (by kernel_rfl) (by decide +kernel) ?_; simp [upd, hn, s1, x1])
      | (refine Tri.cond_true ?_ ?_; (focus simp [upd, hn, s1, x1]; done))
      | (refine Tri.cond_false ?_ ?_; (focus simp [upd, hn, s1, x1]; done))
      | (refine Tri.skip ?_; simp only [thenS, blockS])
      | (refine Tri.block_seq ?_)
      | (refine Tri.block_region ?_)
      | (refine Tri.block_cond ?_)
      | (refine Tri.exit ?_; simp [upd, hn, s1, x1]; first | (rename ∀ st, Tri _ _ _ st _ → _ => hK; first | (apply hK; clear hK) | (clear hK; rename ∀ st, Tri _ _ _ st _ → _ => hK; first | (apply hK; clear hK) | (clear hK; rename ∀ st, Tri _ _ _ st _ → _ => hK; first | (apply hK; clear hK) | (clear hK; rename ∀ st, Tri _ _ _ st _ → _ => hK; first | (apply hK; clear hK) | (clear hK; rename ∀ st, Tri _ _ _ st _ → _ => hK; first | (apply hK; clear hK) | (clear hK; rename ∀ st, Tri _ _ _ st _ → _ => hK; apply hK; clear hK)))))) | skip)
      | (intro β)
      | (rename ∀ st, Tri _ _ _ st _ → _ => hK; apply hK; clear hK))
    rename ∀ st, Tri _ _ _ st _ → _ => hK
    have fin3 := fun (st : St) (h : st.n = 152 ∧ UpD r r.dels.length) => hK st ?tail
    case tail =>
      obtain ⟨hn, hD⟩ := h
      have ho : check r = 0 := hck.2 ⟨hs.1, by omega, by omega, by omega, hA.all, hD.all⟩
      rw [ho]
      repeat (first
        | (refine Tri.seq fun K hK => ?_)
        | (refine Tri.region ?_; simp [upd, hn])
        | (refine Tri.draw (by kernel_rfl) (by decide +kernel) ?_; simp [upd, hn])
        | (refine Tri.cond_true ?_ ?_; (focus simp [upd, hn]; done))
        | (refine Tri.cond_false ?_ ?_; (focus simp [upd, hn]; done))
        | (refine Tri.skip ?_; simp only [thenS, blockS])
        | (refine Tri.block_seq ?_)
        | (refine Tri.block_region ?_)
        | (refine Tri.block_cond ?_)
        | (refine Tri.exit ?_; simp [upd, hn]; first | (rename ∀ st, Tri _ _ _ st _ → _ => hK; first | (apply hK; clear hK) | (clear hK; rename ∀ st, Tri _ _ _ st _ → _ => hK; first | (apply hK; clear hK) | (clear hK; rename ∀ st, Tri _ _ _ st _ → _ => hK; first | (apply hK; clear hK) | (clear hK; rename ∀ st, Tri _ _ _ st _ → _ => hK; first | (apply hK; clear hK) | (clear hK; rename ∀ st, Tri _ _ _ st _ → _ => hK; first | (apply hK; clear hK) | (clear hK; rename ∀ st, Tri _ _ _ st _ → _ => hK; apply hK; clear hK)))))) | skip)
        | (intro β)
        | (rename ∀ st, Tri _ _ _ st _ → _ => hK; apply hK; clear hK))
      refine Tri.ret ⟨_, rfl, ?_⟩
      simp [upd]
      exact Wk.refl _
    clear hK
    refine Tri.block (Tri.loop (KInv3 r) r.dels.length ?_ ?_)
    · exact ⟨b1, 0, ⟨rfl, by simp [upd, s1], by simpa using x1⟩, rfl, by simp [upd], ⟨fun k _ h => by omega, fun k l _ _ _ h => by omega⟩⟩
    · clear hn s1 x1
      rintro m st ⟨b1, i, ⟨hn, s1, x1⟩, hm, s6, hP⟩
      by_cases hi : i < r.dels.length
      case neg =>
        have : i = r.dels.length := by omega
        subst this
        repeat (first
          | (refine Tri.seq fun K hK => ?_)
          | (refine Tri.region ?_; simp [upd, hn, s1, x1, s6])
          | (refine Tri.draw (by kernel_rfl) (by decide +kernel) ?_; simp [upd, hn, s1, x1, s6])
          | (refine Tri.cond_true ?_ ?_; (focus simp [upd, hn, s1, x1, s6]; done))
          | (refine Tri.cond_false ?_ ?_; (focus simp [upd, hn, s1, x1, s6]; done))
          | (refine Tri.skip ?_; simp only [thenS, blockS])
          | (refine Tri.block_seq ?_)
          | (refine Tri.block_region ?_)
          | (refine Tri.block_cond ?_)
          | (refine Tri.exit ?_; simp [upd, hn, s1, x1, s6]; first | (rename ∀ st, Tri _ _ _ st _ → _ => hK; first | (apply hK; clear hK) | (clear hK; rename ∀ st, Tri _ _ _ st _ → _ => hK; first | (apply hK; clear hK) | (clear hK; rename ∀ st, Tri _ _ _ st _ → _ => hK; first | (apply hK; clear hK) | (clear hK; rename ∀ st, Tri _ _ _ st _ → _ => hK; first | (apply hK; clear hK) | (clear hK; rename ∀ st, Tri _ _ _ st _ → _ => hK; first | (apply hK; clear hK) | (clear hK; rename ∀ st, Tri _ _ _ st _ → _ => hK; apply hK; clear hK)))))) | skip)
          | (intro β)
          | (rename ∀ st, Tri _ _ _ st _ → _ => hK; apply hK; clear hK))
        apply fin3
        exact ⟨rfl, hP⟩
      have hw1 : IntKind.i64.wrap ((i : Int) + 1) = (i : Int) + 1 := wrap_i64 (by omega) (by omega)
      have hws : IntKind.i64.wrap (r.slots - 1) = r.slots - 1 := wrap_i64 (by omega) (by omega)
      have j1 := in0_does r.dels[i].slot (r.slots - 1) r.slots (by omega)
      have j2 := in0_does r.dels[i].flow 255 256 (by omega)
      have j3 := in0_does r.dels[i].frame 1048575 1048576 (by omega)
      have hok : delOk r.dels[i] r.slots ↔ belowB r.dels[i].slot r.slots = true ∧ belowB r.dels[i].flow 256 = true ∧ belowB r.dels[i].frame 1048576 = true := by
        simp only [delOk, belowB, decide_eq_true_eq]
        omega
      cases c1 : belowB r.dels[i].slot r.slots
      case false =>
        rw [bad_del i hi (fun h => by have := (hok.1 h).1; rw [c1] at this; cases this)]
        repeat (first
          | (refine Tri.seq fun K hK => ?_)
          | (refine Tri.region ?_; simp [upd, hn, s1, x1, s6, hi, hws, c1])
          | (refine Tri.draw (by kernel_rfl) (by decide +kernel) ?_; simp [upd, hn, s1, x1, s6, hi, hws, c1])
          | (refine Tri.cond_true ?_ ?_; (focus simp [upd, hn, s1, x1, s6, hi, hws, c1]; done))
          | (refine Tri.cond_false ?_ ?_; (focus simp [upd, hn, s1, x1, s6, hi, hws, c1]; done))
          | (refine Tri.skip ?_; simp only [thenS, blockS])
          | (refine Tri.block_seq ?_)
          | (refine Tri.block_region ?_)
          | (refine Tri.block_cond ?_)
          | ((with_reducible refine CallK.pure (j1) (Wks.refl _) ?_); simp [upd, hn, s1, x1, s6, hi, hws, c1])
          | ((with_reducible refine CallK.pure (j2) (Wks.refl _) ?_); simp [upd, hn, s1, x1, s6, hi, hws, c1])
          | ((with_reducible refine CallK.pure (j3) (Wks.refl _) ?_); simp [upd, hn, s1, x1, s6, hi, hws, c1])
          | (refine Tri.exit ?_; simp [upd, hn, s1, x1, s6, hi, hws, c1]; first | (rename ∀ st, Tri _ _ _ st _ → _ => hK; first | (apply hK; clear hK) | (clear hK; rename ∀ st, Tri _ _ _ st _ → _ => hK; first | (apply hK; clear hK) | (clear hK; rename ∀ st, Tri _ _ _ st _ → _ => hK; first | (apply hK; clear hK) | (clear hK; rename ∀ st, Tri _ _ _ st _ → _ => hK; first | (apply hK; clear hK) | (clear hK; rename ∀ st, Tri _ _ _ st _ → _ => hK; first | (apply hK; clear hK) | (clear hK; rename ∀ st, Tri _ _ _ st _ → _ => hK; apply hK; clear hK)))))) | skip)
          | (intro β)
          | (rename ∀ st, Tri _ _ _ st _ → _ => hK; apply hK; clear hK))
        refine Tri.ret ⟨_, rfl, ?_⟩
        simp [upd]
        exact Wk.refl _
      cases c2 : belowB r.dels[i].flow 256
      case false =>
        rw [bad_del i hi (fun h => by have := (hok.1 h).2.1; rw [c2] at this; cases this)]
        repeat (first
          | (refine Tri.seq fun K hK => ?_)
          | (refine Tri.region ?_; simp [upd, hn, s1, x1, s6, hi, hws, c1, c2])
          | (refine Tri.draw (by kernel_rfl) (by decide +kernel) ?_; simp [upd, hn, s1, x1, s6, hi, hws, c1, c2])
          | (refine Tri.cond_true ?_ ?_; (focus simp [upd, hn, s1, x1, s6, hi, hws, c1, c2]; done))
          | (refine Tri.cond_false ?_ ?_; (focus simp [upd, hn, s1, x1, s6, hi, hws, c1, c2]; done))
          | (refine Tri.skip ?_; simp only [thenS, blockS])
          | (refine Tri.block_seq ?_)
          | (refine Tri.block_region ?_)
          | (refine Tri.block_cond ?_)
          | ((with_reducible refine CallK.pure (j1) (Wks.refl _) ?_); simp [upd, hn, s1, x1, s6, hi, hws, c1, c2])
          | ((with_reducible refine CallK.pure (j2) (Wks.refl _) ?_); simp [upd, hn, s1, x1, s6, hi, hws, c1, c2])
          | ((with_reducible refine CallK.pure (j3) (Wks.refl _) ?_); simp [upd, hn, s1, x1, s6, hi, hws, c1, c2])
          | (refine Tri.exit ?_; simp [upd, hn, s1, x1, s6, hi, hws, c1, c2]; first | (rename ∀ st, Tri _ _ _ st _ → _ => hK; first | (apply hK; clear hK) | (clear hK; rename ∀ st, Tri _ _ _ st _ → _ => hK; first | (apply hK; clear hK) | (clear hK; rename ∀ st, Tri _ _ _ st _ → _ => hK; first | (apply hK; clear hK) | (clear hK; rename ∀ st, Tri _ _ _ st _ → _ => hK; first | (apply hK; clear hK) | (clear hK; rename ∀ st, Tri _ _ _ st _ → _ => hK; first | (apply hK; clear hK) | (clear hK; rename ∀ st, Tri _ _ _ st _ → _ => hK; apply hK; clear hK)))))) | skip)
          | (intro β)
          | (rename ∀ st, Tri _ _ _ st _ → _ => hK; apply hK; clear hK))
        refine Tri.ret ⟨_, rfl, ?_⟩
        simp [upd]
        exact Wk.refl _
      cases c3 : belowB r.dels[i].frame 1048576
      case false =>
        rw [bad_del i hi (fun h => by have := (hok.1 h).2.2; rw [c3] at this; cases this)]
        repeat (first
          | (refine Tri.seq fun K hK => ?_)
          | (refine Tri.region ?_; simp [upd, hn, s1, x1, s6, hi, hws, c1, c2, c3])
          | (refine Tri.draw (by kernel_rfl) (by decide +kernel) ?_; simp [upd, hn, s1, x1, s6, hi, hws, c1, c2, c3])
          | (refine Tri.cond_true ?_ ?_; (focus simp [upd, hn, s1, x1, s6, hi, hws, c1, c2, c3]; done))
          | (refine Tri.cond_false ?_ ?_; (focus simp [upd, hn, s1, x1, s6, hi, hws, c1, c2, c3]; done))
          | (refine Tri.skip ?_; simp only [thenS, blockS])
          | (refine Tri.block_seq ?_)
          | (refine Tri.block_region ?_)
          | (refine Tri.block_cond ?_)
          | ((with_reducible refine CallK.pure (j1) (Wks.refl _) ?_); simp [upd, hn, s1, x1, s6, hi, hws, c1, c2, c3])
          | ((with_reducible refine CallK.pure (j2) (Wks.refl _) ?_); simp [upd, hn, s1, x1, s6, hi, hws, c1, c2, c3])
          | ((with_reducible refine CallK.pure (j3) (Wks.refl _) ?_); simp [upd, hn, s1, x1, s6, hi, hws, c1, c2, c3])
          | (refine Tri.exit ?_; simp [upd, hn, s1, x1, s6, hi, hws, c1, c2, c3]; first | (rename ∀ st, Tri _ _ _ st _ → _ => hK; first | (apply hK; clear hK) | (clear hK; rename ∀ st, Tri _ _ _ st _ → _ => hK; first | (apply hK; clear hK) | (clear hK; rename ∀ st, Tri _ _ _ st _ → _ => hK; first | (apply hK; clear hK) | (clear hK; rename ∀ st, Tri _ _ _ st _ → _ => hK; first | (apply hK; clear hK) | (clear hK; rename ∀ st, Tri _ _ _ st _ → _ => hK; first | (apply hK; clear hK) | (clear hK; rename ∀ st, Tri _ _ _ st _ → _ => hK; apply hK; clear hK)))))) | skip)
          | (intro β)
          | (rename ∀ st, Tri _ _ _ st _ → _ => hK; apply hK; clear hK))
        refine Tri.ret ⟨_, rfl, ?_⟩
        simp [upd]
        exact Wk.refl _
      have hok := hok.2 ⟨c1, c2, c3⟩
      by_cases hi0 : 0 < i
      case neg =>
        repeat (first
          | (refine Tri.seq fun K hK => ?_)
          | (refine Tri.region ?_; simp [upd, hn, s1, x1, s6, hi, hi0, hws, c1, c2, c3, hw1])
          | (refine Tri.draw (by kernel_rfl) (by decide +kernel) ?_; simp [upd, hn, s1, x1, s6, hi, hi0, hws, c1, c2, c3, hw1])
          | (refine Tri.cond_true ?_ ?_; (focus simp [upd, hn, s1, x1, s6, hi, hi0, hws, c1, c2, c3, hw1]; done))
          | (refine Tri.cond_false ?_ ?_; (focus simp [upd, hn, s1, x1, s6, hi, hi0, hws, c1, c2, c3, hw1]; done))
          | (refine Tri.skip ?_; simp only [thenS, blockS])
          | (refine Tri.block_seq ?_)
          | (refine Tri.block_region ?_)
          | (refine Tri.block_cond ?_)
          | ((with_reducible refine CallK.pure (j1) (Wks.refl _) ?_); simp [upd, hn, s1, x1, s6, hi, hi0, hws, c1, c2, c3, hw1])
          | ((with_reducible refine CallK.pure (j2) (Wks.refl _) ?_); simp [upd, hn, s1, x1, s6, hi, hi0, hws, c1, c2, c3, hw1])
          | ((with_reducible refine CallK.pure (j3) (Wks.refl _) ?_); simp [upd, hn, s1, x1, s6, hi, hi0, hws, c1, c2, c3, hw1])
          | (refine Tri.exit ?_; simp [upd, hn, s1, x1, s6, hi, hi0, hws, c1, c2, c3, hw1]; first | (rename ∀ st, Tri _ _ _ st _ → _ => hK; first | (apply hK; clear hK) | (clear hK; rename ∀ st, Tri _ _ _ st _ → _ => hK; first | (apply hK; clear hK) | (clear hK; rename ∀ st, Tri _ _ _ st _ → _ => hK; first | (apply hK; clear hK) | (clear hK; rename ∀ st, Tri _ _ _ st _ → _ => hK; first | (apply hK; clear hK) | (clear hK; rename ∀ st, Tri _ _ _ st _ → _ => hK; first | (apply hK; clear hK) | (clear hK; rename ∀ st, Tri _ _ _ st _ → _ => hK; apply hK; clear hK)))))) | skip)
          | (intro β)
          | (rename ∀ st, Tri _ _ _ st _ → _ => hK; apply hK; clear hK))
        exact ⟨m - 1, by omega, b1, i + 1, ⟨rfl, by simp [upd, s1], by simpa using x1⟩, by omega, by simp [upd], hP.succ hi hok fun k hk hki => by omega⟩
      obtain ⟨p, hp⟩ : ∃ p, p = i - 1 := ⟨i - 1, rfl⟩
      have hpl : p < r.dels.length := by omega
      have hwp : IntKind.i64.wrap ((i : Int) - 1) = (p : Int) := by rw [wrap_i64 (by omega) (by omega)]; omega
      by_cases e1 : r.dels[i].slot < r.dels[p].slot
      · rw [bad_dpair i p hi (by omega) (fun h => by unfold ltD at h; omega)]
        repeat (first
          | (refine Tri.seq fun K hK => ?_)
          | (refine Tri.region ?_; simp [upd, hn, s1, x1, s6, hi, hi0, hws, c1, c2, c3, hw1, hwp, hpl, e1])
          | (refine Tri.draw (by kernel_rfl) (by decide +kernel) ?_; simp [upd, hn, s1, x1, s6, hi, hi0, hws, c1, c2, c3, hw1, hwp, hpl, e1])
          | (refine Tri.cond_true ?_ ?_; (focus simp [upd, hn, s1, x1, s6, hi, hi0, hws, c1, c2, c3, hw1, hwp, hpl, e1]; done))
          | (refine Tri.cond_false ?_ ?_; (focus simp [upd, hn, s1, x1, s6, hi, hi0, hws, c1, c2, c3, hw1, hwp, hpl, e1]; done))
          | (refine Tri.skip ?_; simp only [thenS, blockS])
          | (refine Tri.block_seq ?_)
          | (refine Tri.block_region ?_)
          | (refine Tri.block_cond ?_)
          | ((with_reducible refine CallK.pure (j1) (Wks.refl _) ?_); simp [upd, hn, s1, x1, s6, hi, hi0, hws, c1, c2, c3, hw1, hwp, hpl, e1])
          | ((with_reducible refine CallK.pure (j2) (Wks.refl _) ?_); simp [upd, hn, s1, x1, s6, hi, hi0, hws, c1, c2, c3, hw1, hwp, hpl, e1])
          | ((with_reducible refine CallK.pure (j3) (Wks.refl _) ?_); simp [upd, hn, s1, x1, s6, hi, hi0, hws, c1, c2, c3, hw1, hwp, hpl, e1])
          | (refine Tri.exit ?_; simp [upd, hn, s1, x1, s6, hi, hi0, hws, c1, c2, c3, hw1, hwp, hpl, e1]; first | (rename ∀ st, Tri _ _ _ st _ → _ => hK; first | (apply hK; clear hK) | (clear hK; rename ∀ st, Tri _ _ _ st _ → _ => hK; first | (apply hK; clear hK) | (clear hK; rename ∀ st, Tri _ _ _ st _ → _ => hK; first | (apply hK; clear hK) | (clear hK; rename ∀ st, Tri _ _ _ st _ → _ => hK; first | (apply hK; clear hK) | (clear hK; rename ∀ st, Tri _ _ _ st _ → _ => hK; first | (apply hK; clear hK) | (clear hK; rename ∀ st, Tri _ _ _ st _ → _ => hK; apply hK; clear hK)))))) | skip)
          | (intro β)
          | (rename ∀ st, Tri _ _ _ st _ → _ => hK; apply hK; clear hK))
        refine Tri.ret ⟨_, rfl, ?_⟩
        simp [upd]
        exact Wk.refl _
      cases e2 : (r.dels[i].slot == r.dels[p].slot)
      case false =>
        have hl : ltD r.dels[p] r.dels[i] := by
          simp only [beq_eq_false_iff_ne, ne_eq] at e2
          left; omega
        repeat (first
          | (refine Tri.seq fun K hK => ?_)
          | (refine Tri.region ?_; simp [upd, hn, s1, x1, s6, hi, hi0, hws, c1, c2, c3, hw1, hwp, hpl, e1, e2])
          | (refine Tri.draw (by kernel_rfl) (by decide +kernel) ?_; simp [upd, hn, s1, x1, s6, hi, hi0, hws, c1, c2, c3, hw1, hwp, hpl, e1, e2])
          | (refine Tri.cond_true ?_ ?_; (focus simp [upd, hn, s1, x1, s6, hi, hi0, hws, c1, c2, c3, hw1, hwp, hpl, e1, e2]; done))
          | (refine Tri.cond_false ?_ ?_; (focus simp [upd, hn, s1, x1, s6, hi, hi0, hws, c1, c2, c3, hw1, hwp, hpl, e1, e2]; done))
          | (refine Tri.skip ?_; simp only [thenS, blockS])
          | (refine Tri.block_seq ?_)
          | (refine Tri.block_region ?_)
          | (refine Tri.block_cond ?_)
          | ((with_reducible refine CallK.pure (j1) (Wks.refl _) ?_); simp [upd, hn, s1, x1, s6, hi, hi0, hws, c1, c2, c3, hw1, hwp, hpl, e1, e2])
          | ((with_reducible refine CallK.pure (j2) (Wks.refl _) ?_); simp [upd, hn, s1, x1, s6, hi, hi0, hws, c1, c2, c3, hw1, hwp, hpl, e1, e2])
          | ((with_reducible refine CallK.pure (j3) (Wks.refl _) ?_); simp [upd, hn, s1, x1, s6, hi, hi0, hws, c1, c2, c3, hw1, hwp, hpl, e1, e2])
          | (refine Tri.exit ?_; simp [upd, hn, s1, x1, s6, hi, hi0, hws, c1, c2, c3, hw1, hwp, hpl, e1, e2]; first | (rename ∀ st, Tri _ _ _ st _ → _ => hK; first | (apply hK; clear hK) | (clear hK; rename ∀ st, Tri _ _ _ st _ → _ => hK; first | (apply hK; clear hK) | (clear hK; rename ∀ st, Tri _ _ _ st _ → _ => hK; first | (apply hK; clear hK) | (clear hK; rename ∀ st, Tri _ _ _ st _ → _ => hK; first | (apply hK; clear hK) | (clear hK; rename ∀ st, Tri _ _ _ st _ → _ => hK; first | (apply hK; clear hK) | (clear hK; rename ∀ st, Tri _ _ _ st _ → _ => hK; apply hK; clear hK)))))) | skip)
          | (intro β)
          | (rename ∀ st, Tri _ _ _ st _ → _ => hK; apply hK; clear hK))
        exact ⟨m - 1, by omega, b1, i + 1, ⟨rfl, by simp [upd, s1], by simpa using x1⟩, by omega, by simp [upd], hP.succ hi hok fun k hk hki => by
          rcases Nat.lt_or_eq_of_le (show k ≤ p by omega) with h' | rfl
          · exact ltD_trans (hP.2 k p hk hpl h' (by omega)) hl
          · exact hl⟩
      by_cases e3 : r.dels[i].flow ≤ r.dels[p].flow
      · rw [bad_dpair i p hi (by omega) (fun h => by simp only [beq_iff_eq] at e2; unfold ltD at h; omega)]
        repeat (first
          | (refine Tri.seq fun K hK => ?_)
          | (refine Tri.region ?_; simp [upd, hn, s1, x1, s6, hi, hi0, hws, c1, c2, c3, hw1, hwp, hpl, e1, e2, e3])
          | (refine Tri.draw (by kernel_rfl) (by decide +kernel) ?_; simp [upd, hn, s1, x1, s6, hi, hi0, hws, c1, c2, c3, hw1, hwp, hpl, e1, e2, e3])
          | (refine Tri.cond_true ?_ ?_; (focus simp [upd, hn, s1, x1, s6, hi, hi0, hws, c1, c2, c3, hw1, hwp, hpl, e1, e2, e3]; done))
          | (refine Tri.cond_false ?_ ?_; (focus simp [upd, hn, s1, x1, s6, hi, hi0, hws, c1, c2, c3, hw1, hwp, hpl, e1, e2, e3]; done))
          | (refine Tri.skip ?_; simp only [thenS, blockS])
          | (refine Tri.block_seq ?_)
          | (refine Tri.block_region ?_)
          | (refine Tri.block_cond ?_)
          | ((with_reducible refine CallK.pure (j1) (Wks.refl _) ?_); simp [upd, hn, s1, x1, s6, hi, hi0, hws, c1, c2, c3, hw1, hwp, hpl, e1, e2, e3])
          | ((with_reducible refine CallK.pure (j2) (Wks.refl _) ?_); simp [upd, hn, s1, x1, s6, hi, hi0, hws, c1, c2, c3, hw1, hwp, hpl, e1, e2, e3])
          | ((with_reducible refine CallK.pure (j3) (Wks.refl _) ?_); simp [upd, hn, s1, x1, s6, hi, hi0, hws, c1, c2, c3, hw1, hwp, hpl, e1, e2, e3])
          | (refine Tri.exit ?_; simp [upd, hn, s1, x1, s6, hi, hi0, hws, c1, c2, c3, hw1, hwp, hpl, e1, e2, e3]; first | (rename ∀ st, Tri _ _ _ st _ → _ => hK; first | (apply hK; clear hK) | (clear hK; rename ∀ st, Tri _ _ _ st _ → _ => hK; first | (apply hK; clear hK) | (clear hK; rename ∀ st, Tri _ _ _ st _ → _ => hK; first | (apply hK; clear hK) | (clear hK; rename ∀ st, Tri _ _ _ st _ → _ => hK; first | (apply hK; clear hK) | (clear hK; rename ∀ st, Tri _ _ _ st _ → _ => hK; first | (apply hK; clear hK) | (clear hK; rename ∀ st, Tri _ _ _ st _ → _ => hK; apply hK; clear hK)))))) | skip)
          | (intro β)
          | (rename ∀ st, Tri _ _ _ st _ → _ => hK; apply hK; clear hK))
        refine Tri.ret ⟨_, rfl, ?_⟩
        simp [upd]
        exact Wk.refl _
      have hl : ltD r.dels[p] r.dels[i] := by
        simp only [beq_iff_eq] at e2
        right; omega
      repeat (first
        | (refine Tri.seq fun K hK => ?_)
        | (refine Tri.region ?_; simp [upd, hn, s1, x1, s6, hi, hi0, hws, c1, c2, c3, hw1, hwp, hpl, e1, e2, e3])
        | (refine Tri.draw (by kernel_rfl) (by decide +kernel) ?_; simp [upd, hn, s1, x1, s6, hi, hi0, hws, c1, c2, c3, hw1, hwp, hpl, e1, e2, e3])
        | (refine Tri.cond_true ?_ ?_; (focus simp [upd, hn, s1, x1, s6, hi, hi0, hws, c1, c2, c3, hw1, hwp, hpl, e1, e2, e3]; done))
        | (refine Tri.cond_false ?_ ?_; (focus simp [upd, hn, s1, x1, s6, hi, hi0, hws, c1, c2, c3, hw1, hwp, hpl, e1, e2, e3]; done))
        | (refine Tri.skip ?_; simp only [thenS, blockS])
        | (refine Tri.block_seq ?_)
        | (refine Tri.block_region ?_)
        | (refine Tri.block_cond ?_)
        | ((with_reducible refine CallK.pure (j1) (Wks.refl _) ?_); simp [upd, hn, s1, x1, s6, hi, hi0, hws, c1, c2, c3, hw1, hwp, hpl, e1, e2, e3])
        | ((with_reducible refine CallK.pure (j2) (Wks.refl _) ?_); simp [upd, hn, s1, x1, s6, hi, hi0, hws, c1, c2, c3, hw1, hwp, hpl, e1, e2, e3])
        | ((with_reducible refine CallK.pure (j3) (Wks.refl _) ?_); simp [upd, hn, s1, x1, s6, hi, hi0, hws, c1, c2, c3, hw1, hwp, hpl, e1, e2, e3])
        | (refine Tri.exit ?_; simp [upd, hn, s1, x1, s6, hi, hi0, hws, c1, c2, c3, hw1, hwp, hpl, e1, e2, e3]; first | (rename ∀ st, Tri _ _ _ st _ → _ => hK; first | (apply hK; clear hK) | (clear hK; rename ∀ st, Tri _ _ _ st _ → _ => hK; first | (apply hK; clear hK) | (clear hK; rename ∀ st, Tri _ _ _ st _ → _ => hK; first | (apply hK; clear hK) | (clear hK; rename ∀ st, Tri _ _ _ st _ → _ => hK; first | (apply hK; clear hK) | (clear hK; rename ∀ st, Tri _ _ _ st _ → _ => hK; first | (apply hK; clear hK) | (clear hK; rename ∀ st, Tri _ _ _ st _ → _ => hK; apply hK; clear hK)))))) | skip)
        | (intro β)
        | (rename ∀ st, Tri _ _ _ st _ → _ => hK; apply hK; clear hK))
      exact ⟨m - 1, by omega, b1, i + 1, ⟨rfl, by simp [upd, s1], by simpa using x1⟩, by omega, by simp [upd], hP.succ hi hok fun k hk hki => by
        rcases Nat.lt_or_eq_of_le (show k ≤ p by omega) with h' | rfl
        · exact ltD_trans (hP.2 k p hk hpl h' (by omega)) hl
        · exact hl⟩
  clear hK
  refine Tri.block (Tri.loop (KInv1 r) r.atts.length ?_ ?_)
  · exact ⟨_, 0, ⟨rfl, by simp [upd] <;> exact rfl, by simp [upd] <;> exact rfl⟩, rfl, by simp [upd], ⟨fun k _ h => by omega, fun k l _ _ _ h => by omega⟩⟩
  · rintro m st ⟨b1, i, ⟨hn, s1, x1⟩, hm, s3, hP⟩
    by_cases hi : i < r.atts.length
    case neg =>
      have : i = r.atts.length := by omega
      subst this
      repeat (first
        | (refine Tri.seq fun K hK => ?_)
        | (refine Tri.region ?_; simp [upd, hn, s1, x1, s3])
        | (refine Tri.draw (by kernel_rfl) (by decide +kernel) ?_; simp [upd, hn, s1, x1, s3])
        | (refine Tri.cond_true ?_ ?_; (focus simp [upd, hn, s1, x1, s3]; done))
        | (refine Tri.cond_false ?_ ?_; (focus simp [upd, hn, s1, x1, s3]; done))
        | (refine Tri.skip ?_; simp only [thenS, blockS])
        | (refine Tri.block_seq ?_)
        | (refine Tri.block_region ?_)
        | (refine Tri.block_cond ?_)
        | (refine Tri.exit ?_; simp [upd, hn, s1, x1, s3]; first | (rename ∀ st, Tri _ _ _ st _ → _ => hK; first | (apply hK; clear hK) | (clear hK; rename ∀ st, Tri _ _ _ st _ → _ => hK; first | (apply hK; clear hK) | (clear hK; rename ∀ st, Tri _ _ _ st _ → _ => hK; first | (apply hK; clear hK) | (clear hK; rename ∀ st, Tri _ _ _ st _ → _ => hK; first | (apply hK; clear hK) | (clear hK; rename ∀ st, Tri _ _ _ st _ → _ => hK; first | (apply hK; clear hK) | (clear hK; rename ∀ st, Tri _ _ _ st _ → _ => hK; apply hK; clear hK)))))) | skip)
        | (intro β)
        | (rename ∀ st, Tri _ _ _ st _ → _ => hK; apply hK; clear hK))
      apply fin
      exact ⟨b1, ⟨rfl, by simp [upd, s1], by simpa using x1⟩, hP⟩
    have l49 := attR_does r r.atts[i] hs.1 (by omega)
    simp only [recC] at l49
    have hw1 : IntKind.i64.wrap ((i : Int) + 1) = (i : Int) + 1 := wrap_i64 (by omega) (by omega)
    have hwm : IntKind.i64.wrap ((i : Int) - 1) = (i : Int) - 1 := wrap_i64 (by omega) (by omega)
    cases c1 : attOk r.atts[i] r.slots
    case false =>
      rw [bad_att i hi c1]
      repeat (first
        | (refine Tri.seq fun K hK => ?_)
        | (refine Tri.region ?_; simp [upd, hn, s1, x1, s3, hi, c1])
        | (refine Tri.draw (by kernel_rfl) (by decide +kernel) ?_; simp [upd, hn, s1, x1, s3, hi, c1])
        | (refine Tri.cond_true ?_ ?_; (focus simp [upd, hn, s1, x1, s3, hi, c1]; done))
        | (refine Tri.cond_false ?_ ?_; (focus simp [upd, hn, s1, x1, s3, hi, c1]; done))
        | (refine Tri.skip ?_; simp only [thenS, blockS])
        | (refine Tri.block_seq ?_)
        | (refine Tri.block_region ?_)
        | (refine Tri.block_cond ?_)
        | ((with_reducible refine CallK.pure (l49) (Wks.refl _) ?_); simp [upd, hn, s1, x1, s3, hi, c1])
        | (refine Tri.exit ?_; simp [upd, hn, s1, x1, s3, hi, c1]; first | (rename ∀ st, Tri _ _ _ st _ → _ => hK; first | (apply hK; clear hK) | (clear hK; rename ∀ st, Tri _ _ _ st _ → _ => hK; first | (apply hK; clear hK) | (clear hK; rename ∀ st, Tri _ _ _ st _ → _ => hK; first | (apply hK; clear hK) | (clear hK; rename ∀ st, Tri _ _ _ st _ → _ => hK; first | (apply hK; clear hK) | (clear hK; rename ∀ st, Tri _ _ _ st _ → _ => hK; first | (apply hK; clear hK) | (clear hK; rename ∀ st, Tri _ _ _ st _ → _ => hK; apply hK; clear hK)))))) | skip)
        | (intro β)
        | (rename ∀ st, Tri _ _ _ st _ → _ => hK; apply hK; clear hK))
      refine Tri.ret ⟨_, rfl, ?_⟩
      simp [upd]
      exact Wk.refl _
    by_cases hi0 : 0 < i
    case neg =>
      have hlt : ∀ k (_ : k < r.atts.length), k < i → ltA r.atts[k] r.atts[i] := fun k _ h => by omega
      repeat (first
        | (refine Tri.seq fun K hK => ?_)
        | (refine Tri.region ?_; simp [upd, hn, s1, x1, s3, hi, hi0, c1, hwm])
        | (refine Tri.draw (by kernel_rfl) (by decide +kernel) ?_; simp [upd, hn, s1, x1, s3, hi, hi0, c1, hwm])
        | (refine Tri.cond_true ?_ ?_; (focus simp [upd, hn, s1, x1, s3, hi, hi0, c1, hwm]; done))
        | (refine Tri.cond_false ?_ ?_; (focus simp [upd, hn, s1, x1, s3, hi, hi0, c1, hwm]; done))
        | (refine Tri.skip ?_; simp only [thenS, blockS])
        | (refine Tri.block_seq ?_)
        | (refine Tri.block_region ?_)
        | (refine Tri.block_cond ?_)
        | ((with_reducible refine CallK.pure (l49) (Wks.refl _) ?_); simp [upd, hn, s1, x1, s3, hi, hi0, c1, hwm])
        | (refine Tri.exit ?_; simp [upd, hn, s1, x1, s3, hi, hi0, c1, hwm]; first | (rename ∀ st, Tri _ _ _ st _ → _ => hK; first | (apply hK; clear hK) | (clear hK; rename ∀ st, Tri _ _ _ st _ → _ => hK; first | (apply hK; clear hK) | (clear hK; rename ∀ st, Tri _ _ _ st _ → _ => hK; first | (apply hK; clear hK) | (clear hK; rename ∀ st, Tri _ _ _ st _ → _ => hK; first | (apply hK; clear hK) | (clear hK; rename ∀ st, Tri _ _ _ st _ → _ => hK; first | (apply hK; clear hK) | (clear hK; rename ∀ st, Tri _ _ _ st _ → _ => hK; apply hK; clear hK)))))) | skip)
        | (intro β)
        | (rename ∀ st, Tri _ _ _ st _ → _ => hK; apply hK; clear hK))
      rename ∀ st, Tri _ _ _ st _ → _ => hK
      have fin2 := fun (st : St) (h : KEnd2 r i r.atts[i] st) => hK st ?tail
      case tail =>
        clear s3 s1 x1 hn hK
        obtain ⟨b1, ⟨hn, s1, x1⟩, s3, hno⟩ := h
        repeat (first
          | (refine Tri.seq fun K hK => ?_)
          | (refine Tri.region ?_; simp [upd, hn, s1, x1, s3, hw1])
          | (refine Tri.draw (by kernel_rfl) (by decide +kernel) ?_; simp [upd, hn, s1, x1, s3, hw1])
          | (refine Tri.cond_true ?_ ?_; (focus simp [upd, hn, s1, x1, s3, hw1]; done))
          | (refine Tri.cond_false ?_ ?_; (focus simp [upd, hn, s1, x1, s3, hw1]; done))
          | (refine Tri.skip ?_; simp only [thenS, blockS])
          | (refine Tri.block_seq ?_)
          | (refine Tri.block_region ?_)
          | (refine Tri.block_cond ?_)
          | (refine Tri.exit ?_; simp [upd, hn, s1, x1, s3, hw1]; first | (rename ∀ st, Tri _ _ _ st _ → _ => hK; first | (apply hK; clear hK) | (clear hK; rename ∀ st, Tri _ _ _ st _ → _ => hK; first | (apply hK; clear hK) | (clear hK; rename ∀ st, Tri _ _ _ st _ → _ => hK; first | (apply hK; clear hK) | (clear hK; rename ∀ st, Tri _ _ _ st _ → _ => hK; first | (apply hK; clear hK) | (clear hK; rename ∀ st, Tri _ _ _ st _ → _ => hK; first | (apply hK; clear hK) | (clear hK; rename ∀ st, Tri _ _ _ st _ → _ => hK; apply hK; clear hK)))))) | skip)
          | (intro β)
          | (rename ∀ st, Tri _ _ _ st _ → _ => hK; apply hK; clear hK))
        exact ⟨m - 1, by omega, b1, i + 1, ⟨rfl, by simp [upd, s1], by simpa using x1⟩, by omega, by simp [upd], hP.succ hi c1 fun k hk hki => ⟨hlt k hk hki, hno k hk hki⟩⟩
      clear hK
      refine Tri.block (Tri.loop (KInv2 r i β r.atts[i]) i ?_ ?_)
      · exact ⟨b1, (i : Int) - 1, ⟨rfl, by simp [upd, s1], by simp [x1]⟩, by simp [upd], by simp, by simp [upd, s3], by simp [upd, hwm] <;> omega, by omega, by omega, fun k hk h1 h2 => by omega⟩
      · clear hn s1 x1 s3
        rintro m2 st ⟨b1, j, ⟨hn, s1, x1⟩, s4, x4, s3, s5, hmj, hji, hno⟩
        by_cases hj0 : 0 ≤ j
        case neg =>
          repeat (first
            | (refine Tri.seq fun K hK => ?_)
            | (refine Tri.region ?_; simp [upd, hn, s1, x1, s4, x4, s3, s5, hj0])
            | (refine Tri.draw (by kernel_rfl) (by decide +kernel) ?_; simp [upd, hn, s1, x1, s4, x4, s3, s5, hj0])
            | (refine Tri.cond_true ?_ ?_; (focus simp [upd, hn, s1, x1, s4, x4, s3, s5, hj0]; done))
            | (refine Tri.cond_false ?_ ?_; (focus simp [upd, hn, s1, x1, s4, x4, s3, s5, hj0]; done))
            | (refine Tri.skip ?_; simp only [thenS, blockS])
            | (refine Tri.block_seq ?_)
            | (refine Tri.block_region ?_)
            | (refine Tri.block_cond ?_)
            | (refine Tri.exit ?_; simp [upd, hn, s1, x1, s4, x4, s3, s5, hj0]; first | (rename ∀ st, Tri _ _ _ st _ → _ => hK; first | (apply hK; clear hK) | (clear hK; rename ∀ st, Tri _ _ _ st _ → _ => hK; first | (apply hK; clear hK) | (clear hK; rename ∀ st, Tri _ _ _ st _ → _ => hK; first | (apply hK; clear hK) | (clear hK; rename ∀ st, Tri _ _ _ st _ → _ => hK; first | (apply hK; clear hK) | (clear hK; rename ∀ st, Tri _ _ _ st _ → _ => hK; first | (apply hK; clear hK) | (clear hK; rename ∀ st, Tri _ _ _ st _ → _ => hK; apply hK; clear hK)))))) | skip)
            | (intro β)
            | (rename ∀ st, Tri _ _ _ st _ → _ => hK; apply hK; clear hK))
          apply fin2
          exact ⟨b1, ⟨rfl, by simp [upd, s1], by simpa using x1⟩, by simp [upd, s3], fun k hk hki h => hno k hk (by omega) hki h.2⟩
        obtain ⟨j, rfl⟩ := Int.eq_ofNat_of_zero_le hj0
        have hjl : j < r.atts.length := by omega
        have hnw : IntKind.i64.wrap ((j : Int) - 1) = (j : Int) - 1 := wrap_i64 (by omega) (by omega)
        cases c3 : (r.atts[j].slot == r.atts[i].slot)
        case false =>
          repeat (first
            | (refine Tri.seq fun K hK => ?_)
            | (refine Tri.region ?_; simp [upd, hn, s1, x1, s4, x4, s3, s5, hj0, hjl, c3])
            | (refine Tri.draw (by kernel_rfl) (by decide +kernel) ?_; simp [upd, hn, s1, x1, s4, x4, s3, s5, hj0, hjl, c3])
            | (refine Tri.cond_true ?_ ?_; (focus simp [upd, hn, s1, x1, s4, x4, s3, s5, hj0, hjl, c3]; done))
            | (refine Tri.cond_false ?_ ?_; (focus simp [upd, hn, s1, x1, s4, x4, s3, s5, hj0, hjl, c3]; done))
            | (refine Tri.skip ?_; simp only [thenS, blockS])
            | (refine Tri.block_seq ?_)
            | (refine Tri.block_region ?_)
            | (refine Tri.block_cond ?_)
            | (refine Tri.exit ?_; simp [upd, hn, s1, x1, s4, x4, s3, s5, hj0, hjl, c3]; first | (rename ∀ st, Tri _ _ _ st _ → _ => hK; first | (apply hK; clear hK) | (clear hK; rename ∀ st, Tri _ _ _ st _ → _ => hK; first | (apply hK; clear hK) | (clear hK; rename ∀ st, Tri _ _ _ st _ → _ => hK; first | (apply hK; clear hK) | (clear hK; rename ∀ st, Tri _ _ _ st _ → _ => hK; first | (apply hK; clear hK) | (clear hK; rename ∀ st, Tri _ _ _ st _ → _ => hK; first | (apply hK; clear hK) | (clear hK; rename ∀ st, Tri _ _ _ st _ → _ => hK; apply hK; clear hK)))))) | skip)
            | (intro β)
            | (rename ∀ st, Tri _ _ _ st _ → _ => hK; apply hK; clear hK))
          apply fin2
          refine ⟨b1, ⟨rfl, by simp [upd, s1], by simpa using x1⟩, by simp [upd, s3], fun k hk hki h => ?_⟩
          rcases Nat.lt_or_ge j k with h' | h'
          · exact hno k hk (by omega) hki h.2
          · have h1 : r.atts[j].slot ≤ r.atts[i].slot := ltA_slot (hlt j hjl (by omega))
            have h2 : r.atts[k].slot ≤ r.atts[j].slot := by
              rcases Nat.lt_or_eq_of_le h' with h'' | rfl
              · exact ltA_slot (hP.2 k j hk hjl h'' (by omega)).1
              · exact Int.le_refl _
            simp only [beq_eq_false_iff_ne, ne_eq] at c3
            omega
        cases c4 : (r.atts[j].frm == r.atts[i].frm)
        case true =>
          rw [bad_pair i j hi (by omega) (fun h => h.2 ⟨by simpa using c3, by simpa using c4⟩)]
          repeat (first
            | (refine Tri.seq fun K hK => ?_)
            | (refine Tri.region ?_; simp [upd, hn, s1, x1, s4, x4, s3, s5, hj0, hjl, c3, c4])
            | (refine Tri.draw (by kernel_rfl) (by decide +kernel) ?_; simp [upd, hn, s1, x1, s4, x4, s3, s5, hj0, hjl, c3, c4])
            | (refine Tri.cond_true ?_ ?_; (focus simp [upd, hn, s1, x1, s4, x4, s3, s5, hj0, hjl, c3, c4]; done))
            | (refine Tri.cond_false ?_ ?_; (focus simp [upd, hn, s1, x1, s4, x4, s3, s5, hj0, hjl, c3, c4]; done))
            | (refine Tri.skip ?_; simp only [thenS, blockS])
            | (refine Tri.block_seq ?_)
            | (refine Tri.block_region ?_)
            | (refine Tri.block_cond ?_)
            | (refine Tri.exit ?_; simp [upd, hn, s1, x1, s4, x4, s3, s5, hj0, hjl, c3, c4]; first | (rename ∀ st, Tri _ _ _ st _ → _ => hK; first | (apply hK; clear hK) | (clear hK; rename ∀ st, Tri _ _ _ st _ → _ => hK; first | (apply hK; clear hK) | (clear hK; rename ∀ st, Tri _ _ _ st _ → _ => hK; first | (apply hK; clear hK) | (clear hK; rename ∀ st, Tri _ _ _ st _ → _ => hK; first | (apply hK; clear hK) | (clear hK; rename ∀ st, Tri _ _ _ st _ → _ => hK; first | (apply hK; clear hK) | (clear hK; rename ∀ st, Tri _ _ _ st _ → _ => hK; apply hK; clear hK)))))) | skip)
            | (intro β)
            | (rename ∀ st, Tri _ _ _ st _ → _ => hK; apply hK; clear hK))
          refine Tri.ret ⟨_, rfl, ?_⟩
          simp [upd]
          exact Wk.refl _
        repeat (first
          | (refine Tri.seq fun K hK => ?_)
          | (refine Tri.region ?_; simp [upd, hn, s1, x1, s4, x4, s3, s5, hj0, hjl, c3, c4, hnw])
          | (refine Tri.draw (by kernel_rfl) (by decide +kernel) ?_; simp [upd, hn, s1, x1, s4, x4, s3, s5, hj0, hjl, c3, c4, hnw])
          | (refine Tri.cond_true ?_ ?_; (focus simp [upd, hn, s1, x1, s4, x4, s3, s5, hj0, hjl, c3, c4, hnw]; done))
          | (refine Tri.cond_false ?_ ?_; (focus simp [upd, hn, s1, x1, s4, x4, s3, s5, hj0, hjl, c3, c4, hnw]; done))
          | (refine Tri.skip ?_; simp only [thenS, blockS])
          | (refine Tri.block_seq ?_)
          | (refine Tri.block_region ?_)
          | (refine Tri.block_cond ?_)
          | (refine Tri.exit ?_; simp [upd, hn, s1, x1, s4, x4, s3, s5, hj0, hjl, c3, c4, hnw]; first | (rename ∀ st, Tri _ _ _ st _ → _ => hK; first | (apply hK; clear hK) | (clear hK; rename ∀ st, Tri _ _ _ st _ → _ => hK; first | (apply hK; clear hK) | (clear hK; rename ∀ st, Tri _ _ _ st _ → _ => hK; first | (apply hK; clear hK) | (clear hK; rename ∀ st, Tri _ _ _ st _ → _ => hK; first | (apply hK; clear hK) | (clear hK; rename ∀ st, Tri _ _ _ st _ → _ => hK; first | (apply hK; clear hK) | (clear hK; rename ∀ st, Tri _ _ _ st _ → _ => hK; apply hK; clear hK)))))) | skip)
          | (intro β)
          | (rename ∀ st, Tri _ _ _ st _ → _ => hK; apply hK; clear hK))
        refine ⟨m2 - 1, by omega, b1, (j : Int) - 1, ⟨rfl, by simp [upd, s1], by simpa using x1⟩, by simp [upd, s4], by simpa using x4, by simp [upd, s3], by simp [upd], by omega, by omega, fun k hk h1 h2 => ?_⟩
        by_cases hkj : k = j
        · subst hkj; simpa using c4
        · exact hno k hk (by omega) h2
    obtain ⟨p, hp⟩ : ∃ p, p = i - 1 := ⟨i - 1, rfl⟩
    have hpl : p < r.atts.length := by omega
    have hwp : IntKind.i64.wrap ((i : Int) - 1) = (p : Int) := by rw [hwm]; omega
    have l50 := less_does r.atts[p] r.atts[i]
    cases c2 : decide (cmpA r.atts[p] r.atts[i] < 0)
    case false =>
      rw [bad_pair i p hi (by omega) (fun h => by have := (cmpA_lt _ _).2 h.1; simp at c2; omega)]
      rw [c2] at l50
      repeat (first
        | (refine Tri.seq fun K hK => ?_)
        | (refine Tri.region ?_; simp [upd, hn, s1, x1, s3, hi, hi0, c1, hwp, hpl])
        | (refine Tri.draw (by kernel_rfl) (by decide +kernel) ?_; simp [upd, hn, s1, x1, s3, hi, hi0, c1, hwp, hpl])
        | (refine Tri.cond_true ?_ ?_; (focus simp [upd, hn, s1, x1, s3, hi, hi0, c1, hwp, hpl]; done))
        | (refine Tri.cond_false ?_ ?_; (focus simp [upd, hn, s1, x1, s3, hi, hi0, c1, hwp, hpl]; done))
        | (refine Tri.skip ?_; simp only [thenS, blockS])
        | (refine Tri.block_seq ?_)
        | (refine Tri.block_region ?_)
        | (refine Tri.block_cond ?_)
        | ((with_reducible refine CallK.pure (l49) (Wks.refl _) ?_); simp [upd, hn, s1, x1, s3, hi, hi0, c1, hwp, hpl])
        | ((with_reducible refine CallK.pure (l50) (Wks.refl _) ?_); simp [upd, hn, s1, x1, s3, hi, hi0, c1, hwp, hpl])
        | (refine Tri.exit ?_; simp [upd, hn, s1, x1, s3, hi, hi0, c1, hwp, hpl]; first | (rename ∀ st, Tri _ _ _ st _ → _ => hK; first | (apply hK; clear hK) | (clear hK; rename ∀ st, Tri _ _ _ st _ → _ => hK; first | (apply hK; clear hK) | (clear hK; rename ∀ st, Tri _ _ _ st _ → _ => hK; first | (apply hK; clear hK) | (clear hK; rename ∀ st, Tri _ _ _ st _ → _ => hK; first | (apply hK; clear hK) | (clear hK; rename ∀ st, Tri _ _ _ st _ → _ => hK; first | (apply hK; clear hK) | (clear hK; rename ∀ st, Tri _ _ _ st _ → _ => hK; apply hK; clear hK)))))) | skip)
        | (intro β)
        | (rename ∀ st, Tri _ _ _ st _ → _ => hK; apply hK; clear hK))
      refine Tri.ret ⟨_, rfl, ?_⟩
      simp [upd]
      exact Wk.refl _
    have hlt : ∀ k (_ : k < r.atts.length), k < i → ltA r.atts[k] r.atts[i] := by
      have hip : i = p + 1 := by omega
      subst hip
      exact hP.ltA hi (by simpa using c2)
    rw [c2] at l50
    repeat (first
      | (refine Tri.seq fun K hK => ?_)
      | (refine Tri.region ?_; simp [upd, hn, s1, x1, s3, hi, hi0, c1, hwp, hpl])
      | (refine Tri.draw (by kernel_rfl) (by decide +kernel) ?_; simp [upd, hn, s1, x1, s3, hi, hi0, c1, hwp, hpl])
      | (refine Tri.cond_true ?_ ?_; (focus simp [upd, hn, s1, x1, s3, hi, hi0, c1, hwp, hpl]; done))
      | (refine Tri.cond_false ?_ ?_; (focus simp [upd, hn, s1, x1, s3, hi, hi0, c1, hwp, hpl]; done))
      | (refine Tri.skip ?_; simp only [thenS, blockS])
      | (refine Tri.block_seq ?_)
      | (refine Tri.block_region ?_)
      | (refine Tri.block_cond ?_)
      | ((with_reducible refine CallK.pure (l49) (Wks.refl _) ?_); simp [upd, hn, s1, x1, s3, hi, hi0, c1, hwp, hpl])
      | ((with_reducible refine CallK.pure (l50) (Wks.refl _) ?_); simp [upd, hn, s1, x1, s3, hi, hi0, c1, hwp, hpl])
      | (refine Tri.exit ?_; simp [upd, hn, s1, x1, s3, hi, hi0, c1, hwp, hpl]; first | (rename ∀ st, Tri _ _ _ st _ → _ => hK; first | (apply hK; clear hK) | (clear hK; rename ∀ st, Tri _ _ _ st _ → _ => hK; first | (apply hK; clear hK) | (clear hK; rename ∀ st, Tri _ _ _ st _ → _ => hK; first | (apply hK; clear hK) | (clear hK; rename ∀ st, Tri _ _ _ st _ → _ => hK; first | (apply hK; clear hK) | (clear hK; rename ∀ st, Tri _ _ _ st _ → _ => hK; first | (apply hK; clear hK) | (clear hK; rename ∀ st, Tri _ _ _ st _ → _ => hK; apply hK; clear hK)))))) | skip)
      | (intro β)
      | (rename ∀ st, Tri _ _ _ st _ → _ => hK; apply hK; clear hK))
    rename ∀ st, Tri _ _ _ st _ → _ => hK
    have fin2 := fun (st : St) (h : KEnd2 r i r.atts[i] st) => hK st ?tail
    case tail =>
      clear s3 s1 x1 hn hK
      obtain ⟨b1, ⟨hn, s1, x1⟩, s3, hno⟩ := h
      repeat (first
        | (refine Tri.seq fun K hK => ?_)
        | (refine Tri.region ?_; simp [upd, hn, s1, x1, s3, hw1])
        | (refine Tri.draw (by kernel_rfl) (by decide +kernel) ?_; simp [upd, hn, s1, x1, s3, hw1])
        | (refine Tri.cond_true ?_ ?_; (focus simp [upd, hn, s1, x1, s3, hw1]; done))
        | (refine Tri.cond_false ?_ ?_; (focus simp [upd, hn, s1, x1, s3, hw1]; done))
        | (refine Tri.skip ?_; simp only [thenS, blockS])
        | (refine Tri.block_seq ?_)
        | (refine Tri.block_region ?_)
        | (refine Tri.block_cond ?_)
        | (refine Tri.exit ?_; simp [upd, hn, s1, x1, s3, hw1]; first | (rename ∀ st, Tri _ _ _ st _ → _ => hK; first | (apply hK; clear hK) | (clear hK; rename ∀ st, Tri _ _ _ st _ → _ => hK; first | (apply hK; clear hK) | (clear hK; rename ∀ st, Tri _ _ _ st _ → _ => hK; first | (apply hK; clear hK) | (clear hK; rename ∀ st, Tri _ _ _ st _ → _ => hK; first | (apply hK; clear hK) | (clear hK; rename ∀ st, Tri _ _ _ st _ → _ => hK; first | (apply hK; clear hK) | (clear hK; rename ∀ st, Tri _ _ _ st _ → _ => hK; apply hK; clear hK)))))) | skip)
        | (intro β)
        | (rename ∀ st, Tri _ _ _ st _ → _ => hK; apply hK; clear hK))
      exact ⟨m - 1, by omega, b1, i + 1, ⟨rfl, by simp [upd, s1], by simpa using x1⟩, by omega, by simp [upd], hP.succ hi c1 fun k hk hki => ⟨hlt k hk hki, hno k hk hki⟩⟩
    clear hK
    refine Tri.block (Tri.loop (KInv2 r i β r.atts[i]) i ?_ ?_)
    · exact ⟨b1, (i : Int) - 1, ⟨rfl, by simp [upd, s1], by simp [x1]⟩, by simp [upd], by simp, by simp [upd, s3], by simp [upd, hwp] <;> omega, by omega, by omega, fun k hk h1 h2 => by omega⟩
    · clear hn s1 x1 s3
      rintro m2 st ⟨b1, j, ⟨hn, s1, x1⟩, s4, x4, s3, s5, hmj, hji, hno⟩
      by_cases hj0 : 0 ≤ j
      case neg =>
        repeat (first
          | (refine Tri.seq fun K hK => ?_)
          | (refine Tri.region ?_; simp [upd, hn, s1, x1, s4, x4, s3, s5, hj0])
          | (refine Tri.draw (by kernel_rfl) (by decide +kernel) ?_; simp [upd, hn, s1, x1, s4, x4, s3, s5, hj0])
          | (refine Tri.cond_true ?_ ?_; (focus simp [upd, hn, s1, x1, s4, x4, s3, s5, hj0]; done))
          | (refine Tri.cond_false ?_ ?_; (focus simp [upd, hn, s1, x1, s4, x4, s3, s5, hj0]; done))
          | (refine Tri.skip ?_; simp only [thenS, blockS])
          | (refine Tri.block_seq ?_)
          | (refine Tri.block_region ?_)
          | (refine Tri.block_cond ?_)
          | (refine Tri.exit ?_; simp [upd, hn, s1, x1, s4, x4, s3, s5, hj0]; first | (rename ∀ st, Tri _ _ _ st _ → _ => hK; first | (apply hK; clear hK) | (clear hK; rename ∀ st, Tri _ _ _ st _ → _ => hK; first | (apply hK; clear hK) | (clear hK; rename ∀ st, Tri _ _ _ st _ → _ => hK; first | (apply hK; clear hK) | (clear hK; rename ∀ st, Tri _ _ _ st _ → _ => hK; first | (apply hK; clear hK) | (clear hK; rename ∀ st, Tri _ _ _ st _ → _ => hK; first | (apply hK; clear hK) | (clear hK; rename ∀ st, Tri _ _ _ st _ → _ => hK; apply hK; clear hK)))))) | skip)
          | (intro β)
          | (rename ∀ st, Tri _ _ _ st _ → _ => hK; apply hK; clear hK))
        apply fin2
        exact ⟨b1, ⟨rfl, by simp [upd, s1], by simpa using x1⟩, by simp [upd, s3], fun k hk hki h => hno k hk (by omega) hki h.2⟩
      obtain ⟨j, rfl⟩ := Int.eq_ofNat_of_zero_le hj0
      have hjl : j < r.atts.length := by omega
      have hnw : IntKind.i64.wrap ((j : Int) - 1) = (j : Int) - 1 := wrap_i64 (by omega) (by omega)
      cases c3 : (r.atts[j].slot == r.atts[i].slot)
      case false =>
        repeat (first
          | (refine Tri.seq fun K hK => ?_)
          | (refine Tri.region ?_; simp [upd, hn, s1, x1, s4, x4, s3, s5, hj0, hjl, c3])
          | (refine Tri.draw (by kernel_rfl) (by decide +kernel) ?_; simp [upd, hn, s1, x1, s4, x4, s3, s5, hj0, hjl, c3])
          | (refine Tri.cond_true ?_ ?_; (focus simp [upd, hn, s1, x1, s4, x4, s3, s5, hj0, hjl, c3]; done))
          | (refine Tri.cond_false ?_ ?_; (focus simp [upd, hn, s1, x1, s4, x4, s3, s5, hj0, hjl, c3]; done))
          | (refine Tri.skip ?_; simp only [thenS, blockS])
          | (refine Tri.block_seq ?_)
          | (refine Tri.block_region ?_)
          | (refine Tri.block_cond ?_)
          | (refine Tri.exit ?_; simp [upd, hn, s1, x1, s4, x4, s3, s5, hj0, hjl, c3]; first | (rename ∀ st, Tri _ _ _ st _ → _ => hK; first | (apply hK; clear hK) | (clear hK; rename ∀ st, Tri _ _ _ st _ → _ => hK; first | (apply hK; clear hK) | (clear hK; rename ∀ st, Tri _ _ _ st _ → _ => hK; first | (apply hK; clear hK) | (clear hK; rename ∀ st, Tri _ _ _ st _ → _ => hK; first | (apply hK; clear hK) | (clear hK; rename ∀ st, Tri _ _ _ st _ → _ => hK; first | (apply hK; clear hK) | (clear hK; rename ∀ st, Tri _ _ _ st _ → _ => hK; apply hK; clear hK)))))) | skip)
          | (intro β)
          | (rename ∀ st, Tri _ _ _ st _ → _ => hK; apply hK; clear hK))
        apply fin2
        refine ⟨b1, ⟨rfl, by simp [upd, s1], by simpa using x1⟩, by simp [upd, s3], fun k hk hki h => ?_⟩
        rcases Nat.lt_or_ge j k with h' | h'
        · exact hno k hk (by omega) hki h.2
        · have h1 : r.atts[j].slot ≤ r.atts[i].slot := ltA_slot (hlt j hjl (by omega))
          have h2 : r.atts[k].slot ≤ r.atts[j].slot := by
            rcases Nat.lt_or_eq_of_le h' with h'' | rfl
            · exact ltA_slot (hP.2 k j hk hjl h'' (by omega)).1
            · exact Int.le_refl _
          simp only [beq_eq_false_iff_ne, ne_eq] at c3
          omega
      cases c4 : (r.atts[j].frm == r.atts[i].frm)
      case true =>
        rw [bad_pair i j hi (by omega) (fun h => h.2 ⟨by simpa using c3, by simpa using c4⟩)]
        repeat (first
          | (refine Tri.seq fun K hK => ?_)
          | (refine Tri.region ?_; simp [upd, hn, s1, x1, s4, x4, s3, s5, hj0, hjl, c3, c4])
          | (refine Tri.draw (by kernel_rfl) (by decide +kernel) ?_; simp [upd, hn, s1, x1, s4, x4, s3, s5, hj0, hjl, c3, c4])
          | (refine Tri.cond_true ?_ ?_; (focus simp [upd, hn, s1, x1, s4, x4, s3, s5, hj0, hjl, c3, c4]; done))
          | (refine Tri.cond_false ?_ ?_; (focus simp [upd, hn, s1, x1, s4, x4, s3, s5, hj0, hjl, c3, c4]; done))
          | (refine Tri.skip ?_; simp only [thenS, blockS])
          | (refine Tri.block_seq ?_)
          | (refine Tri.block_region ?_)
          | (refine Tri.block_cond ?_)
          | (refine Tri.exit ?_; simp [upd, hn, s1, x1, s4, x4, s3, s5, hj0, hjl, c3, c4]; first | (rename ∀ st, Tri _ _ _ st _ → _ => hK; first | (apply hK; clear hK) | (clear hK; rename ∀ st, Tri _ _ _ st _ → _ => hK; first | (apply hK; clear hK) | (clear hK; rename ∀ st, Tri _ _ _ st _ → _ => hK; first | (apply hK; clear hK) | (clear hK; rename ∀ st, Tri _ _ _ st _ → _ => hK; first | (apply hK; clear hK) | (clear hK; rename ∀ st, Tri _ _ _ st _ → _ => hK; first | (apply hK; clear hK) | (clear hK; rename ∀ st, Tri _ _ _ st _ → _ => hK; apply hK; clear hK)))))) | skip)
          | (intro β)
          | (rename ∀ st, Tri _ _ _ st _ → _ => hK; apply hK; clear hK))
        refine Tri.ret ⟨_, rfl, ?_⟩
        simp [upd]
        exact Wk.refl _
      repeat (first
        | (refine Tri.seq fun K hK => ?_)
        | (refine Tri.region ?_; simp [upd, hn, s1, x1, s4, x4, s3, s5, hj0, hjl, c3, c4, hnw])
        | (refine Tri.draw (by kernel_rfl) (by decide +kernel) ?_; simp [upd, hn, s1, x1, s4, x4, s3, s5, hj0, hjl, c3, c4, hnw])
        | (refine Tri.cond_true ?_ ?_; (focus simp [upd, hn, s1, x1, s4, x4, s3, s5, hj0, hjl, c3, c4, hnw]; done))
        | (refine Tri.cond_false ?_ ?_; (focus simp [upd, hn, s1, x1, s4, x4, s3, s5, hj0, hjl, c3, c4, hnw]; done))
        | (refine Tri.skip ?_; simp only [thenS, blockS])
        | (refine Tri.block_seq ?_)
        | (refine Tri.block_region ?_)
        | (refine Tri.block_cond ?_)
        | (refine Tri.exit ?_; simp [upd, hn, s1, x1, s4, x4, s3, s5, hj0, hjl, c3, c4, hnw]; first | (rename ∀ st, Tri _ _ _ st _ → _ => hK; first | (apply hK; clear hK) | (clear hK; rename ∀ st, Tri _ _ _ st _ → _ => hK; first | (apply hK; clear hK) | (clear hK; rename ∀ st, Tri _ _ _ st _ → _ => hK; first | (apply hK; clear hK) | (clear hK; rename ∀ st, Tri _ _ _ st _ → _ => hK; first | (apply hK; clear hK) | (clear hK; rename ∀ st, Tri _ _ _ st _ → _ => hK; first | (apply hK; clear hK) | (clear hK; rename ∀ st, Tri _ _ _ st _ → _ => hK; apply hK; clear hK)))))) | skip)
        | (intro β)
        | (rename ∀ st, Tri _ _ _ st _ → _ => hK; apply hK; clear hK))
      refine ⟨m2 - 1, by omega, b1, (j : Int) - 1, ⟨rfl, by simp [upd, s1], by simpa using x1⟩, by simp [upd, s4], by simpa using x4, by simp [upd, s3], by simp [upd], by omega, by omega, fun k hk h1 h2 => ?_⟩
      by_cases hkj : k = j
      · subst hkj; simpa using c4
      · exact hno k hk (by omega) h2
end Go.Proofs.Ytcohdlochpjnjaa
end
section
open Go Go.Vm
namespace Go.Proofs.Ytcohdlochpjnjaa
set_option maxRecDepth 100000
set_option maxHeartbeats 4000000
set_option linter.unusedSimpArgs false
theorem bytesOf_append (a b : List Int) : bytesOf a ++ bytesOf b = bytesOf (a ++ b) := by
  rw [bytesOf_ba, bytesOf_ba, bytesOf_ba, List.map_append]
  apply ByteArray.ext
  simp [ba]
theorem bytesOf_size (a : List Int) : (bytesOf a).size = a.length := by rw [bytesOf_ba, ba_size, List.length_map]
theorem i64_max : IntKind.i64.max = 9223372036854775807 := by decide
theorem varI_lt {n : Int} (h : n < 128) : varI n = [IntKind.u8.wrap n] := by rw [varI, dif_neg (by omega)]
theorem varI_ge (n : Nat) (h : ¬ n < 128) : varI (n : Int) = IntKind.u8.wrap ((n % 128 : Nat) + 128 : Int) :: varI ((n / 128 : Nat) : Int) := by
  rw [varI, dif_pos (by omega)]
  have e : (n : Int).fdiv 128 = ((n / 128 : Nat) : Int) := by rw [Int.fdiv_eq_ediv_of_nonneg _ (by omega)]; omega
  have e2 := or128 ⟨n % 256, Nat.mod_lt _ (by omega)⟩
  simp only at e2
  rw [e, u8w, e2]
  congr 1
  have : ((n % 128 : Nat) + 128 : Int) = ((n % 128 + 128 : Nat) : Int) := by omega
  rw [this, u8w]
  congr 1
  omega
attribute [local irreducible] Tri Does DoesB Rounds check sameB bytesOf
theorem vary_does (n : Nat) (hn : n < 4611686018427387904) : Does Try.prog 43 [.c (.int .i64 (n : Int))] (.c (.str (bytesOf (varI (n : Int))))) := by
  induction n using Nat.strongRecOn with
  | ind n ih =>
    refine Does.of_body Try.func43 rfl (by kernel_rfl) rfl rfl (by simp) ?_
    intro E
    by_cases h : n < 128
    · have h' : (n : Int) < 128 := by omega
      rw [varI_lt h']
      repeat (first
        | (refine Tri.seq fun K hK => ?_)
        | (refine Tri.region ?_; simp [upd, h'])
        | (refine Tri.draw (by kernel_rfl) (by decide +kernel) ?_; simp [upd, h'])
        | (refine Tri.cond_true ?_ ?_; (focus simp [upd, h']; done))
        | (refine Tri.cond_false ?_ ?_; (focus simp [upd, h']; done))
        | (refine Tri.skip ?_; simp only [thenS, blockS])
        | (refine Tri.block_seq ?_)
        | (refine Tri.block_region ?_)
        | (refine Tri.block_cond ?_)
        | (refine Tri.exit ?_; simp [upd, h']; first | (rename ∀ st, Tri _ _ _ st _ → _ => hK; first | (apply hK; clear hK) | (clear hK; rename ∀ st, Tri _ _ _ st _ → _ => hK; first | (apply hK; clear hK) | (clear hK; rename ∀ st, Tri _ _ _ st _ → _ => hK; first | (apply hK; clear hK) | (clear hK; rename ∀ st, Tri _ _ _ st _ → _ => hK; first | (apply hK; clear hK) | (clear hK; rename ∀ st, Tri _ _ _ st _ → _ => hK; first | (apply hK; clear hK) | (clear hK; rename ∀ st, Tri _ _ _ st _ → _ => hK; apply hK; clear hK)))))) | skip)
        | (intro β)
        | (rename ∀ st, Tri _ _ _ st _ → _ => hK; apply hK; clear hK))
      refine Tri.ret ⟨_, rfl, ?_⟩
      simp [upd]
      exact Wk.refl _
    have h' : ¬ (n : Int) < 128 := by omega
    have l := ih (n / 128) (by omega) (by omega)
    have hr : (n : Int).tmod 128 = ((n % 128 : Nat) : Int) := by rw [Int.tmod_eq_emod_of_nonneg (by omega)]; omega
    have hq : IntKind.i64.wrap ((n : Int).tdiv 128) = ((n / 128 : Nat) : Int) := by rw [Int.tdiv_eq_ediv_of_nonneg (by omega), wrap_i64 (by omega) (by omega)]; omega
    have hq2 : IntKind.i64.wrap ((n : Int) / 128) = ((n / 128 : Nat) : Int) := by rw [wrap_i64 (by omega) (by omega)]; omega
    have hw : IntKind.i64.wrap (((n % 128 : Nat) : Int) + 128) = ((n % 128 : Nat) : Int) + 128 := wrap_i64 (by omega) (by omega)
    have hv := varI_len (n / 128)
    have hE : bytesOf (varI (n : Int)) = bytesOf [IntKind.u8.wrap (((n % 128 : Nat) : Int) + 128)] ++ bytesOf (varI ((n / 128 : Nat) : Int)) := by
      rw [bytesOf_append, varI_ge n h]; rfl
    rw [hE]
    have hz : ¬ ((9223372036854775807 : Int) < ((bytesOf [IntKind.u8.wrap (((n % 128 : Nat) : Int) + 128)]).size : Int) + ((bytesOf (varI ((n / 128 : Nat) : Int))).size : Int)) := by
      rw [bytesOf_size, bytesOf_size]
      simp only [List.length_singleton]
      omega
    generalize ((n % 128 : Nat) : Int) = m at *
    generalize ((n / 128 : Nat) : Int) = q at *
    repeat (first
      | (refine Tri.seq fun K hK => ?_)
      | (refine Tri.region ?_; simp [upd, h', hr, hq, hq2, hw, hz])
      | (refine Tri.draw (by kernel_rfl) (by decide +kernel) ?_; simp [upd, h', hr, hq, hq2, hw, hz])
      | (refine Tri.cond_true ?_ ?_; (focus simp [upd, h', hr, hq, hq2, hw, hz]; done))
      | (refine Tri.cond_false ?_ ?_; (focus simp [upd, h', hr, hq, hq2, hw, hz]; done))
      | (refine Tri.skip ?_; simp only [thenS, blockS])
      | (refine Tri.block_seq ?_)
      | (refine Tri.block_region ?_)
      | (refine Tri.block_cond ?_)
      | ((with_reducible refine CallK.pure (l) (Wks.refl _) ?_); simp [upd, h', hr, hq, hq2, hw, hz])
      | (refine Tri.exit ?_; simp [upd, h', hr, hq, hq2, hw, hz]; first | (rename ∀ st, Tri _ _ _ st _ → _ => hK; first | (apply hK; clear hK) | (clear hK; rename ∀ st, Tri _ _ _ st _ → _ => hK; first | (apply hK; clear hK) | (clear hK; rename ∀ st, Tri _ _ _ st _ → _ => hK; first | (apply hK; clear hK) | (clear hK; rename ∀ st, Tri _ _ _ st _ → _ => hK; first | (apply hK; clear hK) | (clear hK; rename ∀ st, Tri _ _ _ st _ → _ => hK; first | (apply hK; clear hK) | (clear hK; rename ∀ st, Tri _ _ _ st _ → _ => hK; apply hK; clear hK)))))) | skip)
      | (intro β)
      | (rename ∀ st, Tri _ _ _ st _ → _ => hK; apply hK; clear hK))
    refine Tri.ret ⟨_, rfl, ?_⟩
    simp [upd]
    exact Wk.refl _
theorem vary_i (z : Int) (h : Sm z) : Does Try.prog 43 [.c (.int .i64 z)] (.c (.str (bytesOf (varI z)))) := by
  obtain ⟨h0, h1⟩ := h
  obtain ⟨k, rfl⟩ := Int.eq_ofNat_of_zero_le h0
  exact vary_does k (by omega)
structure EI (r : Rec) (st : St) (b1 : Nat) (cur : List Int) (t : Int) : Prop where
  hn : st.n = 115
  s1 : st.sl 1 = .c (.box 1 b1 0)
  x1 : st.bx 1 = some (b1, [.int .i64 r.slots, .sl r.an 8 none (r.atts.map attC), .sl r.dn 3 none (r.dels.map delC)])
  s4 : st.sl 4 = .c (.str (bytesOf cur))
  s5 : st.sl 5 = .c (.int .i64 t)
def RInv1 (r : Rec) (m : Nat) (st : St) : Prop := ∃ b1 cur t i, EI r st b1 cur t ∧ m + i = r.atts.length ∧ st.sl 6 = .c (.int .i64 (i : Nat)) ∧ cur ++ (attsEnc t (r.atts.drop i) ++ restE r) = encB r ∧ 0 ≤ t ∧ ∀ a ∈ r.atts.drop i, t ≤ a.slot
def REnd1 (r : Rec) (st : St) : Prop := ∃ b1 cur t, EI r st b1 cur t ∧ cur ++ restE r = encB r
def RInv2 (r : Rec) (m : Nat) (st : St) : Prop := ∃ b1 cur t i, EI r st b1 cur t ∧ m + i = r.dels.length ∧ st.sl 9 = .c (.int .i64 (i : Nat)) ∧ cur ++ delsEnc t (r.dels.drop i) = encB r ∧ 0 ≤ t ∧ ∀ a ∈ r.dels.drop i, t ≤ a.slot
theorem encR_does (r : Rec) : Does Try.prog 17 [.agg (recC r)] (if check r = 0 then .tup [.c (.str (bytesOf (encB r))), .c (.int .i64 0)] else .tup [.c (.str ⟨#[]⟩), .c (.int .i64 (check r))]) := by
  refine Does.of_body Try.func17 rfl (by kernel_rfl) rfl rfl (by simp) ?_
  intro E
  have hck := checkR_does r
  cases hc : (check r == 0)
  case false =>
    have hc0 : ¬ check r = 0 := by simpa using hc
    have hc1 : check r = 1 := not_order fun h => hc0 ((check_iff r).2 h)
    rw [if_neg hc0, hc1]
    rw [hc1] at hck
    simp only [recC] at hck ⊢
    repeat (first
      | (refine Tri.seq fun K hK => ?_)
      | (refine Tri.region ?_; simp [upd])
      | (refine Tri.draw (by kernel_rfl) (by decide +kernel) ?_; simp [upd])
      | (refine Tri.cond_true ?_ ?_; (focus simp [upd]; done))
      | (refine Tri.cond_false ?_ ?_; (focus simp [upd]; done))
      | (refine Tri.skip ?_; simp only [thenS, blockS])
      | (refine Tri.block_seq ?_)
      | (refine Tri.block_region ?_)
      | (refine Tri.block_cond ?_)
      | ((with_reducible refine CallK.pure (hck) (Wks.refl _) ?_); simp [upd])
      | (refine Tri.exit ?_; simp [upd]; first | (rename ∀ st, Tri _ _ _ st _ → _ => hK; first | (apply hK; clear hK) | (clear hK; rename ∀ st, Tri _ _ _ st _ → _ => hK; first | (apply hK; clear hK) | (clear hK; rename ∀ st, Tri _ _ _ st _ → _ => hK; first | (apply hK; clear hK) | (clear hK; rename ∀ st, Tri _ _ _ st _ → _ => hK; first | (apply hK; clear hK) | (clear hK; rename ∀ st, Tri _ _ _ st _ → _ => hK; first | (apply hK; clear hK) | (clear hK; rename ∀ st, Tri _ _ _ st _ → _ => hK; apply hK; clear hK)))))) | skip)
      | (intro β)
      | (rename ∀ st, Tri _ _ _ st _ → _ => hK; apply hK; clear hK))
    refine Tri.ret ⟨_, rfl, ?_⟩
    simp [upd]
    exact Wk.refl _
  have hc0 : check r = 0 := by simpa using hc
  rw [if_pos hc0]
  rw [hc0] at hck
  have ho := (check_iff r).1 hc0
  have hlen := enc_len ho
  have hal := ho.al
  have hdl := ho.dl
  simp only [recC] at hck ⊢
  have v0 := vary_i r.slots ⟨ho.s0, by have := ho.s1; omega⟩
  have v1 := vary_i (r.atts.length : Int) ⟨by omega, by have := ho.al; omega⟩
  have hE : [r.slots, (r.atts.length : Int)].flatMap varI ++ (attsEnc 0 r.atts ++ restE r) = encB r := rfl
  have z1 : ¬ (9223372036854775807 : Int) < ((varI r.slots).length : Int) + ((varI (r.atts.length : Int)).length : Int) := by
    rw [← hE] at hlen
    simp only [List.flatMap_cons, List.flatMap_nil, List.length_append] at hlen
    omega
  repeat (first
    | (refine Tri.seq fun K hK => ?_)
    | (refine Tri.region ?_; simp [upd, bytesOf_append, bytesOf_size, z1])
    | (refine Tri.draw (by kernel_rfl) (by decide +kernel) ?_; simp [upd, bytesOf_append, bytesOf_size, z1])
    | (refine Tri.cond_true ?_ ?_; (focus simp [upd, bytesOf_append, bytesOf_size, z1]; done))
    | (refine Tri.cond_false ?_ ?_; (focus simp [upd, bytesOf_append, bytesOf_size, z1]; done))
    | (refine Tri.skip ?_; simp only [thenS, blockS])
    | (refine Tri.block_seq ?_)
    | (refine Tri.block_region ?_)
    | (refine Tri.block_cond ?_)
    | ((with_reducible refine CallK.pure (hck) (Wks.refl _) ?_); simp [upd, bytesOf_append, bytesOf_size, z1])
    | ((with_reducible refine CallK.pure (v0) (Wks.refl _) ?_); simp [upd, bytesOf_append, bytesOf_size, z1])
    | ((with_reducible refine CallK.pure (v1) (Wks.refl _) ?_); simp [upd, bytesOf_append, bytesOf_size, z1])
    | (refine Tri.exit ?_; simp [upd, bytesOf_append, bytesOf_size, z1]; first | (rename ∀ st, Tri _ _ _ st _ → _ => hK; first | (apply hK; clear hK) | (clear hK; rename ∀ st, Tri _ _ _ st _ → _ => hK; first | (apply hK; clear hK) | (clear hK; rename ∀ st, Tri _ _ _ st _ → _ => hK; first | (apply hK; clear hK) | (clear hK; rename ∀ st, Tri _ _ _ st _ → _ => hK; first | (apply hK; clear hK) | (clear hK; rename ∀ st, Tri _ _ _ st _ → _ => hK; first | (apply hK; clear hK) | (clear hK; rename ∀ st, Tri _ _ _ st _ → _ => hK; apply hK; clear hK)))))) | skip)
    | (intro β)
    | (rename ∀ st, Tri _ _ _ st _ → _ => hK; apply hK; clear hK))
  rename ∀ st, Tri _ _ _ st _ → _ => hK
  have fin := fun (st : St) (h : REnd1 r st) => hK st ?tail
  case tail =>
    obtain ⟨b1, cur, t, ⟨hn, s1, x1, s4, s5⟩, hcur⟩ := h
    clear hK
    have vd := vary_i (r.dels.length : Int) ⟨by omega, by have := ho.dl; omega⟩
    unfold restE at hcur
    have hL := hlen
    rw [← hcur] at hL
    simp only [List.flatMap_cons, List.flatMap_nil, List.append_nil, List.length_append] at hL hcur
    have zd : ¬ (9223372036854775807 : Int) < (cur.length : Int) + ((varI (r.dels.length : Int)).length : Int) := by omega
    repeat (first
      | (refine Tri.seq fun K hK => ?_)
      | (refine Tri.region ?_; simp [upd, hn, s1, x1, s4, s5, bytesOf_append, bytesOf_size, zd])
      | (refine Tri.draw (by kernel_rfl) (by decide +kernel) ?_; simp [upd, hn, s1, x1, s4, s5, bytesOf_append, bytesOf_size, zd])
      | (refine Tri.cond_true ?_ ?_; (focus simp [upd, hn, s1, x1, s4, s5, bytesOf_append, bytesOf_size, zd]; done))
      | (refine Tri.cond_false ?_ ?_; (focus simp [upd, hn, s1, x1, s4, s5, bytesOf_append, bytesOf_size, zd]; done))
      | (refine Tri.skip ?_; simp only [thenS, blockS])
      | (refine Tri.block_seq ?_)
      | (refine Tri.block_region ?_)
      | (refine Tri.block_cond ?_)
      | ((with_reducible refine CallK.pure (vd) (Wks.refl _) ?_); simp [upd, hn, s1, x1, s4, s5, bytesOf_append, bytesOf_size, zd])
      | (refine Tri.exit ?_; simp [upd, hn, s1, x1, s4, s5, bytesOf_append, bytesOf_size, zd]; first | (rename ∀ st, Tri _ _ _ st _ → _ => hK; first | (apply hK; clear hK) | (clear hK; rename ∀ st, Tri _ _ _ st _ → _ => hK; first | (apply hK; clear hK) | (clear hK; rename ∀ st, Tri _ _ _ st _ → _ => hK; first | (apply hK; clear hK) | (clear hK; rename ∀ st, Tri _ _ _ st _ → _ => hK; first | (apply hK; clear hK) | (clear hK; rename ∀ st, Tri _ _ _ st _ → _ => hK; first | (apply hK; clear hK) | (clear hK; rename ∀ st, Tri _ _ _ st _ → _ => hK; apply hK; clear hK)))))) | skip)
      | (intro β)
      | (rename ∀ st, Tri _ _ _ st _ → _ => hK; apply hK; clear hK))
    rename ∀ st, Tri _ _ _ st _ → _ => hK
    have fin3 := fun (st : St) (h : st.n = 115 ∧ st.sl 4 = .c (.str (bytesOf (encB r)))) => hK st ?tail
    case tail =>
      obtain ⟨hn, s4⟩ := h
      repeat (first
        | (refine Tri.seq fun K hK => ?_)
        | (refine Tri.region ?_; simp [upd, hn, s4])
        | (refine Tri.draw (by kernel_rfl) (by decide +kernel) ?_; simp [upd, hn, s4])
        | (refine Tri.cond_true ?_ ?_; (focus simp [upd, hn, s4]; done))
        | (refine Tri.cond_false ?_ ?_; (focus simp [upd, hn, s4]; done))
        | (refine Tri.skip ?_; simp only [thenS, blockS])
        | (refine Tri.block_seq ?_)
        | (refine Tri.block_region ?_)
        | (refine Tri.block_cond ?_)
        | (refine Tri.exit ?_; simp [upd, hn, s4]; first | (rename ∀ st, Tri _ _ _ st _ → _ => hK; first | (apply hK; clear hK) | (clear hK; rename ∀ st, Tri _ _ _ st _ → _ => hK; first | (apply hK; clear hK) | (clear hK; rename ∀ st, Tri _ _ _ st _ → _ => hK; first | (apply hK; clear hK) | (clear hK; rename ∀ st, Tri _ _ _ st _ → _ => hK; first | (apply hK; clear hK) | (clear hK; rename ∀ st, Tri _ _ _ st _ → _ => hK; first | (apply hK; clear hK) | (clear hK; rename ∀ st, Tri _ _ _ st _ → _ => hK; apply hK; clear hK)))))) | skip)
        | (intro β)
        | (rename ∀ st, Tri _ _ _ st _ → _ => hK; apply hK; clear hK))
      refine Tri.ret ⟨_, rfl, ?_⟩
      simp [upd]
      exact Wk.refl _
    clear hK
    refine Tri.block (Tri.loop (RInv2 r) r.dels.length ?_ ?_)
    · exact ⟨b1, cur ++ varI (r.dels.length : Int), 0, 0, ⟨rfl, by simp [upd, s1], by simpa using x1, by simp [upd], by simp [upd]⟩, rfl, by simp [upd], by rw [← hcur]; simp [List.append_assoc], by omega, fun a ha => (ho.dels.1 a (by simpa using ha)).2.2.2.2.1⟩
    · clear hn s1 x1 s4 s5 hcur zd hL
      clear cur
      rintro m st ⟨b1, cur, t, i, ⟨hn, s1, x1, s4, s5⟩, hm, s9, hcur, ht0, hts⟩
      by_cases hi : i < r.dels.length
      case neg =>
        rw [List.drop_of_length_le (by omega)] at hcur
        simp only [delsEnc, List.append_nil] at hcur
        subst hcur
        repeat (first
          | (refine Tri.seq fun K hK => ?_)
          | (refine Tri.region ?_; simp [upd, hn, s1, x1, s4, s5, s9, hi])
          | (refine Tri.draw (by kernel_rfl) (by decide +kernel) ?_; simp [upd, hn, s1, x1, s4, s5, s9, hi])
          | (refine Tri.cond_true ?_ ?_; (focus simp [upd, hn, s1, x1, s4, s5, s9, hi]; done))
          | (refine Tri.cond_false ?_ ?_; (focus simp [upd, hn, s1, x1, s4, s5, s9, hi]; done))
          | (refine Tri.skip ?_; simp only [thenS, blockS])
          | (refine Tri.block_seq ?_)
          | (refine Tri.block_region ?_)
          | (refine Tri.block_cond ?_)
          | (refine Tri.exit ?_; simp [upd, hn, s1, x1, s4, s5, s9, hi]; first | (rename ∀ st, Tri _ _ _ st _ → _ => hK; first | (apply hK; clear hK) | (clear hK; rename ∀ st, Tri _ _ _ st _ → _ => hK; first | (apply hK; clear hK) | (clear hK; rename ∀ st, Tri _ _ _ st _ → _ => hK; first | (apply hK; clear hK) | (clear hK; rename ∀ st, Tri _ _ _ st _ → _ => hK; first | (apply hK; clear hK) | (clear hK; rename ∀ st, Tri _ _ _ st _ → _ => hK; first | (apply hK; clear hK) | (clear hK; rename ∀ st, Tri _ _ _ st _ → _ => hK; apply hK; clear hK)))))) | skip)
          | (intro β)
          | (rename ∀ st, Tri _ _ _ st _ → _ => hK; apply hK; clear hK))
        apply fin3
        exact ⟨rfl, by simp [upd, s4]⟩
      have hd : r.dels.drop i = r.dels[i] :: r.dels.drop (i + 1) := List.drop_eq_getElem_cons hi
      rw [hd] at hcur hts
      obtain ⟨a0, a1, a2, a3, a4, a5⟩ := ho.dels.1 _ (List.getElem_mem hi)
      have hs1 := ho.s1
      have hta := hts _ (List.mem_cons_self ..)
      have hwt : IntKind.i64.wrap (r.dels[i].slot - t) = r.dels[i].slot - t := wrap_i64 (by omega) (by omega)
      have hpw := ho.dels.2
      rw [← List.take_append_drop i r.dels, hd] at hpw
      have hpw := List.pairwise_cons.1 (List.pairwise_append.1 hpw).2.1
      have hts' : ∀ a ∈ r.dels.drop (i + 1), r.dels[i].slot ≤ a.slot := fun a ha => by have := hpw.1 a ha; unfold ltD at this; omega
      have hfl : (delNs t r.dels[i]).flatMap varI = varI (r.dels[i].slot - t) ++ (varI r.dels[i].flow ++ varI r.dels[i].frame) := by
        simp [delNs, i64w, hwt]
      rw [delsEnc, hfl] at hcur
      have hL := hlen
      rw [← hcur] at hL
      have u0 := vary_i (r.dels[i].slot - t) ⟨by omega, by omega⟩
      have u1 := vary_i (r.dels[i].flow) ⟨by omega, by omega⟩
      have u2 := vary_i (r.dels[i].frame) ⟨by omega, by omega⟩
      generalize varI (r.dels[i].slot - t) = w0 at *
      generalize varI (r.dels[i].flow) = w1 at *
      generalize varI (r.dels[i].frame) = w2 at *
      simp only [List.length_append] at hL
      have z1 : ¬ (9223372036854775807 : Int) < ((w0.length : Int) + (w1.length : Int)) := by omega
      have z2 : ¬ (9223372036854775807 : Int) < (((w0.length : Int) + (w1.length : Int)) + (w2.length : Int)) := by omega
      have z8 : ¬ (9223372036854775807 : Int) < (cur.length : Int) + ((w0.length : Int) + ((w1.length : Int) + (w2.length : Int))) := by omega
      have hw1 : IntKind.i64.wrap ((i : Int) + 1) = (i : Int) + 1 := wrap_i64 (by omega) (by omega)
      repeat (first
        | (refine Tri.seq fun K hK => ?_)
        | (refine Tri.region ?_; simp [upd, hn, s1, x1, s4, s5, s9, hi, hwt, hw1, bytesOf_append, bytesOf_size, z1, z2, z8])
        | (refine Tri.draw (by kernel_rfl) (by decide +kernel) ?_; simp [upd, hn, s1, x1, s4, s5, s9, hi, hwt, hw1, bytesOf_append, bytesOf_size, z1, z2, z8])
        | (refine Tri.cond_true ?_ ?_; (focus simp [upd, hn, s1, x1, s4, s5, s9, hi, hwt, hw1, bytesOf_append, bytesOf_size, z1, z2, z8]; done))
        | (refine Tri.cond_false ?_ ?_; (focus simp [upd, hn, s1, x1, s4, s5, s9, hi, hwt, hw1, bytesOf_append, bytesOf_size, z1, z2, z8]; done))
        | (refine Tri.skip ?_; simp only [thenS, blockS])
        | (refine Tri.block_seq ?_)
        | (refine Tri.block_region ?_)
        | (refine Tri.block_cond ?_)
        | ((with_reducible refine CallK.pure (u0) (Wks.refl _) ?_); simp [upd, hn, s1, x1, s4, s5, s9, hi, hwt, hw1, bytesOf_append, bytesOf_size, z1, z2, z8])
        | ((with_reducible refine CallK.pure (u1) (Wks.refl _) ?_); simp [upd, hn, s1, x1, s4, s5, s9, hi, hwt, hw1, bytesOf_append, bytesOf_size, z1, z2, z8])
        | ((with_reducible refine CallK.pure (u2) (Wks.refl _) ?_); simp [upd, hn, s1, x1, s4, s5, s9, hi, hwt, hw1, bytesOf_append, bytesOf_size, z1, z2, z8])
        | (refine Tri.exit ?_; simp [upd, hn, s1, x1, s4, s5, s9, hi, hwt, hw1, bytesOf_append, bytesOf_size, z1, z2, z8]; first | (rename ∀ st, Tri _ _ _ st _ → _ => hK; first | (apply hK; clear hK) | (clear hK; rename ∀ st, Tri _ _ _ st _ → _ => hK; first | (apply hK; clear hK) | (clear hK; rename ∀ st, Tri _ _ _ st _ → _ => hK; first | (apply hK; clear hK) | (clear hK; rename ∀ st, Tri _ _ _ st _ → _ => hK; first | (apply hK; clear hK) | (clear hK; rename ∀ st, Tri _ _ _ st _ → _ => hK; first | (apply hK; clear hK) | (clear hK; rename ∀ st, Tri _ _ _ st _ → _ => hK; apply hK; clear hK)))))) | skip)
        | (intro β)
        | (rename ∀ st, Tri _ _ _ st _ → _ => hK; apply hK; clear hK))
      exact ⟨m - 1, by omega, b1, cur ++ (w0 ++ (w1 ++ w2)), r.dels[i].slot, i + 1, ⟨rfl, by simp [upd, s1], by simpa using x1, by simp [upd], by simp [upd]⟩, by omega, by simp [upd], by rw [← hcur]; simp [List.append_assoc], a4, hts'⟩
  clear hK
  refine Tri.block (Tri.loop (RInv1 r) r.atts.length ?_ ?_)
  · exact ⟨_, [r.slots, (r.atts.length : Int)].flatMap varI, 0, 0, ⟨rfl, by simp [upd] <;> exact rfl, by simp [upd] <;> exact rfl, by simp [upd], by simp [upd]⟩, rfl, by simp [upd], hE, by omega, fun a ha => (attOk_sm (ho.atts.1 a (by simpa using ha)) ho.s1).1⟩
  · rintro m st ⟨b1, cur, t, i, ⟨hn, s1, x1, s4, s5⟩, hm, s6, hcur, ht0, hts⟩
    by_cases hi : i < r.atts.length
    case neg =>
      rw [List.drop_of_length_le (by omega)] at hcur
      repeat (first
        | (refine Tri.seq fun K hK => ?_)
        | (refine Tri.region ?_; simp [upd, hn, s1, x1, s4, s5, s6, hi])
        | (refine Tri.draw (by kernel_rfl) (by decide +kernel) ?_; simp [upd, hn, s1, x1, s4, s5, s6, hi])
        | (refine Tri.cond_true ?_ ?_; (focus simp [upd, hn, s1, x1, s4, s5, s6, hi]; done))
        | (refine Tri.cond_false ?_ ?_; (focus simp [upd, hn, s1, x1, s4, s5, s6, hi]; done))
        | (refine Tri.skip ?_; simp only [thenS, blockS])
        | (refine Tri.block_seq ?_)
        | (refine Tri.block_region ?_)
        | (refine Tri.block_cond ?_)
        | (refine Tri.exit ?_; simp [upd, hn, s1, x1, s4, s5, s6, hi]; first | (rename ∀ st, Tri _ _ _ st _ → _ => hK; first | (apply hK; clear hK) | (clear hK; rename ∀ st, Tri _ _ _ st _ → _ => hK; first | (apply hK; clear hK) | (clear hK; rename ∀ st, Tri _ _ _ st _ → _ => hK; first | (apply hK; clear hK) | (clear hK; rename ∀ st, Tri _ _ _ st _ → _ => hK; first | (apply hK; clear hK) | (clear hK; rename ∀ st, Tri _ _ _ st _ → _ => hK; first | (apply hK; clear hK) | (clear hK; rename ∀ st, Tri _ _ _ st _ → _ => hK; apply hK; clear hK)))))) | skip)
        | (intro β)
        | (rename ∀ st, Tri _ _ _ st _ → _ => hK; apply hK; clear hK))
      apply fin
      exact ⟨b1, cur, t, ⟨rfl, by simp [upd, s1], by simpa using x1, by simp [upd, s4], by simp [upd, s5]⟩, hcur⟩
    have hd : r.atts.drop i = r.atts[i] :: r.atts.drop (i + 1) := List.drop_eq_getElem_cons hi
    rw [hd] at hcur hts
    obtain ⟨a0, a1, m1, m2, m3, m4, m5, m6, m7⟩ := attOk_sm (ho.atts.1 _ (List.getElem_mem hi)) ho.s1
    have hs1 := ho.s1
    have hta := hts _ (List.mem_cons_self ..)
    have hwt : IntKind.i64.wrap (r.atts[i].slot - t) = r.atts[i].slot - t := wrap_i64 (by omega) (by omega)
    have m0 : Sm (r.atts[i].slot - t) := ⟨by omega, by omega⟩
    have hpw := ho.atts.2
    rw [← List.take_append_drop i r.atts, hd] at hpw
    have hpw := List.pairwise_cons.1 (List.pairwise_append.1 hpw).2.1
    have hts' : ∀ a ∈ r.atts.drop (i + 1), r.atts[i].slot ≤ a.slot := fun a ha => ltA_slot (hpw.1 a ha).1
    have hfl : (attNs t r.atts[i]).flatMap varI = varI (r.atts[i].slot - t) ++ (varI r.atts[i].frame ++ (varI r.atts[i].cslot ++ (varI r.atts[i].off ++ (varI r.atts[i].frm ++ (varI r.atts[i].to ++ (varI r.atts[i].flow ++ varI r.atts[i].out)))))) := by
      simp [attNs, i64w, hwt]
    rw [attsEnc, hfl] at hcur
    have hL := hlen
    rw [← hcur] at hL
    have u0 := vary_i (r.atts[i].slot - t) m0
    have u1 := vary_i (r.atts[i].frame) m1
    have u2 := vary_i (r.atts[i].cslot) m2
    have u3 := vary_i (r.atts[i].off) m3
    have u4 := vary_i (r.atts[i].frm) m4
    have u5 := vary_i (r.atts[i].to) m5
    have u6 := vary_i (r.atts[i].flow) m6
    have u7 := vary_i (r.atts[i].out) m7
    generalize varI (r.atts[i].slot - t) = w0 at *
    generalize varI (r.atts[i].frame) = w1 at *
    generalize varI (r.atts[i].cslot) = w2 at *
    generalize varI (r.atts[i].off) = w3 at *
    generalize varI (r.atts[i].frm) = w4 at *
    generalize varI (r.atts[i].to) = w5 at *
    generalize varI (r.atts[i].flow) = w6 at *
    generalize varI (r.atts[i].out) = w7 at *
    simp only [List.length_append] at hL
    have z1 : ¬ (9223372036854775807 : Int) < ((w0.length : Int) + (w1.length : Int)) := by omega
    have z2 : ¬ (9223372036854775807 : Int) < (((w0.length : Int) + (w1.length : Int)) + (w2.length : Int)) := by omega
    have z3 : ¬ (9223372036854775807 : Int) < (((w0.length : Int) + ((w1.length : Int) + (w2.length : Int))) + (w3.length : Int)) := by omega
    have z4 : ¬ (9223372036854775807 : Int) < (((w0.length : Int) + ((w1.length : Int) + ((w2.length : Int) + (w3.length : Int)))) + (w4.length : Int)) := by omega
    have z5 : ¬ (9223372036854775807 : Int) < (((w0.length : Int) + ((w1.length : Int) + ((w2.length : Int) + ((w3.length : Int) + (w4.length : Int))))) + (w5.length : Int)) := by omega
    have z6 : ¬ (9223372036854775807 : Int) < (((w0.length : Int) + ((w1.length : Int) + ((w2.length : Int) + ((w3.length : Int) + ((w4.length : Int) + (w5.length : Int)))))) + (w6.length : Int)) := by omega
    have z7 : ¬ (9223372036854775807 : Int) < (((w0.length : Int) + ((w1.length : Int) + ((w2.length : Int) + ((w3.length : Int) + ((w4.length : Int) + ((w5.length : Int) + (w6.length : Int))))))) + (w7.length : Int)) := by omega
    have z8 : ¬ (9223372036854775807 : Int) < (cur.length : Int) + ((w0.length : Int) + ((w1.length : Int) + ((w2.length : Int) + ((w3.length : Int) + ((w4.length : Int) + ((w5.length : Int) + ((w6.length : Int) + (w7.length : Int)))))))) := by omega
    have hw1 : IntKind.i64.wrap ((i : Int) + 1) = (i : Int) + 1 := wrap_i64 (by omega) (by omega)
    repeat (first
      | (refine Tri.seq fun K hK => ?_)
      | (refine Tri.region ?_; simp [upd, hn, s1, x1, s4, s5, s6, hi, hwt, hw1, bytesOf_append, bytesOf_size, z1, z2, z3, z4, z5, z6, z7, z8])
      | (refine Tri.draw (by kernel_rfl) (by decide +kernel) ?_; simp [upd, hn, s1, x1, s4, s5, s6, hi, hwt, hw1, bytesOf_append, bytesOf_size, z1, z2, z3, z4, z5, z6, z7, z8])
      | (refine Tri.cond_true ?_ ?_; (focus simp [upd, hn, s1, x1, s4, s5, s6, hi, hwt, hw1, bytesOf_append, bytesOf_size, z1, z2, z3, z4, z5, z6, z7, z8]; done))
      | (refine Tri.cond_false ?_ ?_; (focus simp [upd, hn, s1, x1, s4, s5, s6, hi, hwt, hw1, bytesOf_append, bytesOf_size, z1, z2, z3, z4, z5, z6, z7, z8]; done))
      | (refine Tri.skip ?_; simp only [thenS, blockS])
      | (refine Tri.block_seq ?_)
      | (refine Tri.block_region ?_)
      | (refine Tri.block_cond ?_)
      | ((with_reducible refine CallK.pure (u0) (Wks.refl _) ?_); simp [upd, hn, s1, x1, s4, s5, s6, hi, hwt, hw1, bytesOf_append, bytesOf_size, z1, z2, z3, z4, z5, z6, z7, z8])
      | ((with_reducible refine CallK.pure (u1) (Wks.refl _) ?_); simp [upd, hn, s1, x1, s4, s5, s6, hi, hwt, hw1, bytesOf_append, bytesOf_size, z1, z2, z3, z4, z5, z6, z7, z8])
      | ((with_reducible refine CallK.pure (u2) (Wks.refl _) ?_); simp [upd, hn, s1, x1, s4, s5, s6, hi, hwt, hw1, bytesOf_append, bytesOf_size, z1, z2, z3, z4, z5, z6, z7, z8])
      | ((with_reducible refine CallK.pure (u3) (Wks.refl _) ?_); simp [upd, hn, s1, x1, s4, s5, s6, hi, hwt, hw1, bytesOf_append, bytesOf_size, z1, z2, z3, z4, z5, z6, z7, z8])
      | ((with_reducible refine CallK.pure (u4) (Wks.refl _) ?_); simp [upd, hn, s1, x1, s4, s5, s6, hi, hwt, hw1, bytesOf_append, bytesOf_size, z1, z2, z3, z4, z5, z6, z7, z8])
      | ((with_reducible refine CallK.pure (u5) (Wks.refl _) ?_); simp [upd, hn, s1, x1, s4, s5, s6, hi, hwt, hw1, bytesOf_append, bytesOf_size, z1, z2, z3, z4, z5, z6, z7, z8])
      | ((with_reducible refine CallK.pure (u6) (Wks.refl _) ?_); simp [upd, hn, s1, x1, s4, s5, s6, hi, hwt, hw1, bytesOf_append, bytesOf_size, z1, z2, z3, z4, z5, z6, z7, z8])
      | ((with_reducible refine CallK.pure (u7) (Wks.refl _) ?_); simp [upd, hn, s1, x1, s4, s5, s6, hi, hwt, hw1, bytesOf_append, bytesOf_size, z1, z2, z3, z4, z5, z6, z7, z8])
      | (refine Tri.exit ?_; simp [upd, hn, s1, x1, s4, s5, s6, hi, hwt, hw1, bytesOf_append, bytesOf_size, z1, z2, z3, z4, z5, z6, z7, z8]; first | (rename ∀ st, Tri _ _ _ st _ → _ => hK; first | (apply hK; clear hK) | (clear hK; rename ∀ st, Tri _ _ _ st _ → _ => hK; first | (apply hK; clear hK) | (clear hK; rename ∀ st, Tri _ _ _ st _ → _ => hK; first | (apply hK; clear hK) | (clear hK; rename ∀ st, Tri _ _ _ st _ → _ => hK; first | (apply hK; clear hK) | (clear hK; rename ∀ st, Tri _ _ _ st _ → _ => hK; first | (apply hK; clear hK) | (clear hK; rename ∀ st, Tri _ _ _ st _ → _ => hK; apply hK; clear hK)))))) | skip)
      | (intro β)
      | (rename ∀ st, Tri _ _ _ st _ → _ => hK; apply hK; clear hK))
    exact ⟨m - 1, by omega, b1, cur ++ (w0 ++ (w1 ++ (w2 ++ (w3 ++ (w4 ++ (w5 ++ (w6 ++ w7))))))), r.atts[i].slot, i + 1, ⟨rfl, by simp [upd, s1], by simpa using x1, by simp [upd], by simp [upd]⟩, by omega, by simp [upd], by rw [← hcur]; simp [List.append_assoc], a0, hts'⟩
end Go.Proofs.Ytcohdlochpjnjaa
end
section
open Go Go.Vm
namespace Go.Proofs.Ytcohdlochpjnjaa
set_option maxRecDepth 100000
set_option maxHeartbeats 4000000
set_option linter.unusedSimpArgs false
attribute [local irreducible] Tri Does DoesB Rounds encB check bytesOf sameB
theorem encodes_does (r : Rec) (h1 : r.an = true → r.atts = []) (h2 : r.dn = true → r.dels = []) : Does Try.prog 4 [.agg (recC r)] (.c (.bool true)) := by
  have l0 := awake_does
  have l1 := few_does r
  refine Does.of_body Try.func4 rfl (by kernel_rfl) rfl rfl (by simp) ?_
  intro E
  cases hf : (decide (r.atts.length ≤ 150) && decide (r.dels.length ≤ 100))
  case false =>
    rw [hf] at l1
    simp only [recC] at l1 ⊢
    repeat (first
      | (refine Tri.seq fun K hK => ?_)
      | (refine Tri.region ?_; simp [upd])
      | (refine Tri.draw (by kernel_rfl) (by decide +kernel) ?_; simp [upd])
      | (refine Tri.cond_true ?_ ?_; (focus simp [upd]; done))
      | (refine Tri.cond_false ?_ ?_; (focus simp [upd]; done))
      | (refine Tri.skip ?_; simp only [thenS, blockS])
      | (refine Tri.block_seq ?_)
      | (refine Tri.block_region ?_)
      | (refine Tri.block_cond ?_)
      | ((with_reducible refine CallK.pure (l0) (Wks.refl _) ?_); simp [upd])
      | ((with_reducible refine CallK.pure (l1) (Wks.refl _) ?_); simp [upd])
      | (refine Tri.exit ?_; simp [upd]; first | (rename ∀ st, Tri _ _ _ st _ → _ => hK; first | (apply hK; clear hK) | (clear hK; rename ∀ st, Tri _ _ _ st _ → _ => hK; first | (apply hK; clear hK) | (clear hK; rename ∀ st, Tri _ _ _ st _ → _ => hK; first | (apply hK; clear hK) | (clear hK; rename ∀ st, Tri _ _ _ st _ → _ => hK; first | (apply hK; clear hK) | (clear hK; rename ∀ st, Tri _ _ _ st _ → _ => hK; first | (apply hK; clear hK) | (clear hK; rename ∀ st, Tri _ _ _ st _ → _ => hK; apply hK; clear hK)))))) | skip)
      | (intro β)
      | (rename ∀ st, Tri _ _ _ st _ → _ => hK; apply hK; clear hK))
    refine Tri.ret ⟨_, rfl, ?_⟩
    simp [upd]
    exact Wk.refl _
  rw [hf] at l1
  simp only [Bool.and_eq_true, decide_eq_true_eq] at hf
  have hok : RecOk r := ⟨h1, h2, by omega, by omega⟩
  have l2 := cp_does r hok
  have l3 := encode_does r (fun h => enc_len ((check_iff r).1 h))
  have l4 := check_does r
  have l5 := encR_does r
  have l6 := checkR_does r
  by_cases hc : check r = 0
  case neg =>
    rw [if_neg hc] at l3 l5
    simp only [recC] at l1 l2 l3 l4 l5 l6 ⊢
    repeat (first
      | (refine Tri.seq fun K hK => ?_)
      | (refine Tri.region ?_; simp [upd, hc, bne])
      | (refine Tri.draw (by kernel_rfl) (by decide +kernel) ?_; simp [upd, hc, bne])
      | (refine Tri.cond_true ?_ ?_; (focus simp [upd, hc, bne]; done))
      | (refine Tri.cond_false ?_ ?_; (focus simp [upd, hc, bne]; done))
      | (refine Tri.skip ?_; simp only [thenS, blockS])
      | (refine Tri.block_seq ?_)
      | (refine Tri.block_region ?_)
      | (refine Tri.block_cond ?_)
      | ((with_reducible refine CallK.pure (l0) (Wks.refl _) ?_); simp [upd, hc, bne])
      | ((with_reducible refine CallK.pure (l1) (Wks.refl _) ?_); simp [upd, hc, bne])
      | ((with_reducible refine CallK.pure (l2) (Wks.refl _) ?_); simp [upd, hc, bne])
      | ((with_reducible refine CallK.pure (l3) (Wks.refl _) ?_); simp [upd, hc, bne])
      | ((with_reducible refine CallK.pure (l4) (Wks.refl _) ?_); simp [upd, hc, bne])
      | ((with_reducible refine CallK.pure (l5) (Wks.refl _) ?_); simp [upd, hc, bne])
      | ((with_reducible refine CallK.pure (l6) (Wks.refl _) ?_); simp [upd, hc, bne])
      | (refine Tri.exit ?_; simp [upd, hc, bne]; first | (rename ∀ st, Tri _ _ _ st _ → _ => hK; first | (apply hK; clear hK) | (clear hK; rename ∀ st, Tri _ _ _ st _ → _ => hK; first | (apply hK; clear hK) | (clear hK; rename ∀ st, Tri _ _ _ st _ → _ => hK; first | (apply hK; clear hK) | (clear hK; rename ∀ st, Tri _ _ _ st _ → _ => hK; first | (apply hK; clear hK) | (clear hK; rename ∀ st, Tri _ _ _ st _ → _ => hK; first | (apply hK; clear hK) | (clear hK; rename ∀ st, Tri _ _ _ st _ → _ => hK; apply hK; clear hK)))))) | skip)
      | (intro β)
      | (rename ∀ st, Tri _ _ _ st _ → _ => hK; apply hK; clear hK))
    refine Tri.ret ⟨_, rfl, ?_⟩
    simp [upd]
    exact Wk.refl _
  rw [if_pos hc] at l3 l5
  simp only [recC] at l1 l2 l3 l4 l5 l6 ⊢
  repeat (first
    | (refine Tri.seq fun K hK => ?_)
    | (refine Tri.region ?_; simp [upd, hc, bne])
    | (refine Tri.draw (by kernel_rfl) (by decide +kernel) ?_; simp [upd, hc, bne])
    | (refine Tri.cond_true ?_ ?_; (focus simp [upd, hc, bne]; done))
    | (refine Tri.cond_false ?_ ?_; (focus simp [upd, hc, bne]; done))
    | (refine Tri.skip ?_; simp only [thenS, blockS])
    | (refine Tri.block_seq ?_)
    | (refine Tri.block_region ?_)
    | (refine Tri.block_cond ?_)
    | ((with_reducible refine CallK.pure (l0) (Wks.refl _) ?_); simp [upd, hc, bne])
    | ((with_reducible refine CallK.pure (l1) (Wks.refl _) ?_); simp [upd, hc, bne])
    | ((with_reducible refine CallK.pure (l2) (Wks.refl _) ?_); simp [upd, hc, bne])
    | ((with_reducible refine CallK.pure (l3) (Wks.refl _) ?_); simp [upd, hc, bne])
    | ((with_reducible refine CallK.pure (l4) (Wks.refl _) ?_); simp [upd, hc, bne])
    | ((with_reducible refine CallK.pure (l5) (Wks.refl _) ?_); simp [upd, hc, bne])
    | ((with_reducible refine CallK.pure (l6) (Wks.refl _) ?_); simp [upd, hc, bne])
    | (refine Tri.exit ?_; simp [upd, hc, bne]; first | (rename ∀ st, Tri _ _ _ st _ → _ => hK; first | (apply hK; clear hK) | (clear hK; rename ∀ st, Tri _ _ _ st _ → _ => hK; first | (apply hK; clear hK) | (clear hK; rename ∀ st, Tri _ _ _ st _ → _ => hK; first | (apply hK; clear hK) | (clear hK; rename ∀ st, Tri _ _ _ st _ → _ => hK; first | (apply hK; clear hK) | (clear hK; rename ∀ st, Tri _ _ _ st _ → _ => hK; first | (apply hK; clear hK) | (clear hK; rename ∀ st, Tri _ _ _ st _ → _ => hK; apply hK; clear hK)))))) | skip)
    | (intro β)
    | (rename ∀ st, Tri _ _ _ st _ → _ => hK; apply hK; clear hK))
  refine Tri.ret ⟨_, rfl, ?_⟩
  simp [upd]
  exact Wk.refl _
end Go.Proofs.Ytcohdlochpjnjaa
end
section
open Go Go.Vm
open Go.ChangeShapes Go.WideShapes Go.ChangeAt Go.RowKit
namespace Go.Proofs.Ytcohdlochpjnjaa.recordEncodes
set_option linter.unusedVariables false
theorem own : ownKnob Try.prog.godebug = none := by kernel_rfl
set_option maxRecDepth 100000 in
theorem lifted (os : Os) (started : os.Started) (H : Type) (enc : TypeId × Value → H) :
    ReturnsInHanded {} Try.checked os 4 .any (Rows.recordEncodesSpec.pre6 enc Try.prog Try.f4 Rows.recordEncodesRow.domain false) (Rows.recordEncodesSpec.post enc Try.prog Try.f4 false true false false) := by
  refine returnsInHanded_of_change (C := Try.checked) own started (by kernel_rfl) Try.func4
    (ChangeSpec.witness6 (enc := enc) (C := Try.checked) false ⟨#[], #[.agg #[.int .i64 0, .slice none 0 0, .slice none 0 0]], []⟩ 8 (by kernel_rfl) (by kernel_rfl) (by kernel_rfl) (by kernel_rfl)) ?_
  intro W base args ds gs before hval0 hW hcnd _
  have hval : ∀ (j : Nat) t v, Try.f4.params[j]? = some t → args[j]? = some v → Value.okWide Try.prog W .any base t v := hval0
  have hW' := hW
  obtain ⟨p, q, hA0, hV, rfl, hfz, hnd⟩ := hW
  have hA : DataW.TrodAll enc Try.prog W 0 (fun _ => true) true Try.f4.params.toList args.toList ds p := hA0
  rw [Try.params4] at hA hval
  obtain ⟨v0, vs0, d0, ds0, p0, q0, hargs0, rfl, rfl, h0, r0⟩ := trodAll_cons hA
  obtain ⟨rfl, rfl, rfl⟩ := trodAll_nil r0
  obtain rfl : args = #[v0] := by cases args; simp_all
  obtain ⟨rfl, rfl⟩ := trodVars_none hV
  obtain ⟨r, hra, hrd, hrl, hrm, hv0⟩ := open_rec (hval 0 28 v0 rfl rfl) h0
  clear hA0 hval0
  simp only [List.append_nil] at hW'
  have hlt := hW'.lt
  have hD := (encodes_does r hra hrd).2 (fun b _ => b < W.heap.size) W [v0] ⟨rfl, fun k hk => match k, hk with
    | 0, _ => hv0⟩ (fun b _ h => h)
  refine hD.mono fun e W' ⟨u, F', he, hu, hl⟩ => ?_
  subst he
  have hb : Below W.heap.size W W' := ⟨hl.os, hl.tape, hl.output, hl.size, hl.block⟩
  have hu' := hu.inv
  cases hu'
  have hsame0 : ∀ p ∈ p0, W.sameAt W' p := fun p hp => hb.same (hlt p (by simp [hp]))
  exact ⟨_, rfl, post_below (pa := (p0 ++ [])) (pv := []) hW' hb (by simp) (fun _ _ _ => (trodAll_cons_mk (shut_bool Try.underlying4 _) trodAll_mk0))
    (fun sp hsp => (trodAll_cons_mk (WideElems.Trod_stays (by kernel_rfl) (by kernel_rfl) (by decide +kernel) h0 hsame0 fun p hp => hsp p (by simp [hp])) trodAll_mk0))
    (fun _ _ => rfl) (ok_one (by kernel_rfl) rfl (okWide_bool_mk Try.underlying4 _))⟩
theorem over : Rows.recordEncodesRow.holds Try.pinned (OpenSpec.ofChange Rows.recordEncodesSpec) :=
  OpenClaim.holds_of_wide 4 Try.f4 rfl rfl rfl rfl rfl rfl rfl ⟨rfl, rfl, rfl, rfl, rfl⟩ rfl rfl rfl rfl rfl (by kernel_rfl) Try.func4 (by kernel_rfl)
    (of_decide_eq_true (by kernel_rfl)) (by unfold Func.isWrapper; first | (rw [if_pos (by decide +kernel)]; kernel_rfl) | (rw [if_neg (by decide +kernel)]; exact ⟨rfl, rfl⟩))
    (fun os started H enc _ => lifted os started H enc)
theorem proved : Rows.RecordEncodesSaid :=
  over
end Go.Proofs.Ytcohdlochpjnjaa.recordEncodes
end
