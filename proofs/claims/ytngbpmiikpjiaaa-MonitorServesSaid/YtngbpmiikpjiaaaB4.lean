/- Lemmas for the statements of this seat: MR25 M10 M11 M12 M13 M22. -/
import Derived.Test.YtngbpmiikpjiaaaB3
set_option linter.all false
section
open Go Go.Vm
namespace Go.Proofs.Ytngbpmiikpjiaaa
set_option maxRecDepth 100000
set_option maxHeartbeats 4000000
set_option linter.unusedSimpArgs false
theorem inB_below (n hi e : Int) (h : hi + 1 = e) : inB n 0 hi = belowB n e := by
  unfold inB belowB
  rw [Bool.eq_iff_iff]
  simp only [Bool.and_eq_true, decide_eq_true_eq]
  omega
theorem in0_does (n hi e : Int) (h : hi + 1 = e) : Does Try.prog 83 [.c (.int .i64 n), .c (.int .i64 0), .c (.int .i64 hi)] (.c (.bool (belowB n e))) := inB_below n hi e h ▸ in_does n 0 hi
theorem in14_does (n : Int) : Does Try.prog 83 [.c (.int .i64 n), .c (.int .i64 1), .c (.int .i64 4)] (.c (.bool (decide (1 ≤ n) && decide (n ≤ 4)))) := in_does n 1 4
attribute [local irreducible] Tri Does DoesB Rounds check inB
theorem attR_does (r : Rec) (a : Att) (h0 : 0 ≤ r.slots) (h1 : r.slots ≤ 4096) : Does Try.prog 84 [.agg (recC r), .agg (attC a)] (.c (.bool (attOk a r.slots))) := by
  refine Does.of_body Try.func84 rfl (by kernel_rfl) rfl rfl (by simp) ?_
  intro E
  have hw : IntKind.i64.wrap (r.slots - 1) = r.slots - 1 := wrap_i64 (by omega) (by omega)
  have i1 := in0_does a.slot (r.slots - 1) r.slots (by omega)
  have i2 := in0_does a.frame 1048575 1048576 (by omega)
  have i3 := in0_does a.cslot 511 512 (by omega)
  have i4 := in0_does a.off 15 16 (by omega)
  have i5 := in0_does a.frm 31 32 (by omega)
  have i6 := in0_does a.to 31 32 (by omega)
  have i7 := in0_does a.flow 255 256 (by omega)
  have i8 := in14_does a.out
  simp only [recC]
  unfold attOk
  cases h1 : belowB a.slot r.slots
  case false =>
    repeat (first
      | (refine Tri.seq fun K hK => ?_)
      | (refine Tri.region ?_; simp [upd, hw, h1])
      | (refine Tri.draw (by kernel_rfl) (by decide +kernel) ?_; simp [upd, hw, h1])
      | (refine Tri.cond_true ?_ ?_; (focus simp [upd, hw, h1]; done))
      | (refine Tri.cond_false ?_ ?_; (focus simp [upd, hw, h1]; done))
      | (refine Tri.skip ?_; simp only [thenS, blockS])
      | (refine Tri.block_seq ?_)
      | (refine Tri.block_region ?_)
      | (refine Tri.block_cond ?_)
      | ((with_reducible refine CallK.pure (i1) (Wks.refl _) ?_); simp [upd, hw, h1])
      | ((with_reducible refine CallK.pure (i2) (Wks.refl _) ?_); simp [upd, hw, h1])
      | ((with_reducible refine CallK.pure (i3) (Wks.refl _) ?_); simp [upd, hw, h1])
      | ((with_reducible refine CallK.pure (i4) (Wks.refl _) ?_); simp [upd, hw, h1])
      | ((with_reducible refine CallK.pure (i5) (Wks.refl _) ?_); simp [upd, hw, h1])
      | ((with_reducible refine CallK.pure (i6) (Wks.refl _) ?_); simp [upd, hw, h1])
      | ((with_reducible refine CallK.pure (i7) (Wks.refl _) ?_); simp [upd, hw, h1])
      | ((with_reducible refine CallK.pure (i8) (Wks.refl _) ?_); simp [upd, hw, h1])
      | (refine Tri.exit ?_; simp [upd, hw, h1]; first | (rename ∀ st, Tri _ _ _ st _ → _ => hK; first | (apply hK; clear hK) | (clear hK; rename ∀ st, Tri _ _ _ st _ → _ => hK; first | (apply hK; clear hK) | (clear hK; rename ∀ st, Tri _ _ _ st _ → _ => hK; first | (apply hK; clear hK) | (clear hK; rename ∀ st, Tri _ _ _ st _ → _ => hK; first | (apply hK; clear hK) | (clear hK; rename ∀ st, Tri _ _ _ st _ → _ => hK; first | (apply hK; clear hK) | (clear hK; rename ∀ st, Tri _ _ _ st _ → _ => hK; apply hK; clear hK)))))) | skip)
      | (intro β)
      | (rename ∀ st, Tri _ _ _ st _ → _ => hK; apply hK; clear hK))
    refine Tri.ret ⟨_, rfl, ?_⟩
    simp [upd]
    exact Wk.refl _
  cases h2 : belowB a.frame 1048576
  case false =>
    repeat (first
      | (refine Tri.seq fun K hK => ?_)
      | (refine Tri.region ?_; simp [upd, hw, h1, h2])
      | (refine Tri.draw (by kernel_rfl) (by decide +kernel) ?_; simp [upd, hw, h1, h2])
      | (refine Tri.cond_true ?_ ?_; (focus simp [upd, hw, h1, h2]; done))
      | (refine Tri.cond_false ?_ ?_; (focus simp [upd, hw, h1, h2]; done))
      | (refine Tri.skip ?_; simp only [thenS, blockS])
      | (refine Tri.block_seq ?_)
      | (refine Tri.block_region ?_)
      | (refine Tri.block_cond ?_)
      | ((with_reducible refine CallK.pure (i1) (Wks.refl _) ?_); simp [upd, hw, h1, h2])
      | ((with_reducible refine CallK.pure (i2) (Wks.refl _) ?_); simp [upd, hw, h1, h2])
      | ((with_reducible refine CallK.pure (i3) (Wks.refl _) ?_); simp [upd, hw, h1, h2])
      | ((with_reducible refine CallK.pure (i4) (Wks.refl _) ?_); simp [upd, hw, h1, h2])
      | ((with_reducible refine CallK.pure (i5) (Wks.refl _) ?_); simp [upd, hw, h1, h2])
      | ((with_reducible refine CallK.pure (i6) (Wks.refl _) ?_); simp [upd, hw, h1, h2])
      | ((with_reducible refine CallK.pure (i7) (Wks.refl _) ?_); simp [upd, hw, h1, h2])
      | ((with_reducible refine CallK.pure (i8) (Wks.refl _) ?_); simp [upd, hw, h1, h2])
      | (refine Tri.exit ?_; simp [upd, hw, h1, h2]; first | (rename ∀ st, Tri _ _ _ st _ → _ => hK; first | (apply hK; clear hK) | (clear hK; rename ∀ st, Tri _ _ _ st _ → _ => hK; first | (apply hK; clear hK) | (clear hK; rename ∀ st, Tri _ _ _ st _ → _ => hK; first | (apply hK; clear hK) | (clear hK; rename ∀ st, Tri _ _ _ st _ → _ => hK; first | (apply hK; clear hK) | (clear hK; rename ∀ st, Tri _ _ _ st _ → _ => hK; first | (apply hK; clear hK) | (clear hK; rename ∀ st, Tri _ _ _ st _ → _ => hK; apply hK; clear hK)))))) | skip)
      | (intro β)
      | (rename ∀ st, Tri _ _ _ st _ → _ => hK; apply hK; clear hK))
    refine Tri.ret ⟨_, rfl, ?_⟩
    simp [upd]
    exact Wk.refl _
  cases h3 : belowB a.cslot 512
  case false =>
    repeat (first
      | (refine Tri.seq fun K hK => ?_)
      | (refine Tri.region ?_; simp [upd, hw, h1, h2, h3])
      | (refine Tri.draw (by kernel_rfl) (by decide +kernel) ?_; simp [upd, hw, h1, h2, h3])
      | (refine Tri.cond_true ?_ ?_; (focus simp [upd, hw, h1, h2, h3]; done))
      | (refine Tri.cond_false ?_ ?_; (focus simp [upd, hw, h1, h2, h3]; done))
      | (refine Tri.skip ?_; simp only [thenS, blockS])
      | (refine Tri.block_seq ?_)
      | (refine Tri.block_region ?_)
      | (refine Tri.block_cond ?_)
      | ((with_reducible refine CallK.pure (i1) (Wks.refl _) ?_); simp [upd, hw, h1, h2, h3])
      | ((with_reducible refine CallK.pure (i2) (Wks.refl _) ?_); simp [upd, hw, h1, h2, h3])
      | ((with_reducible refine CallK.pure (i3) (Wks.refl _) ?_); simp [upd, hw, h1, h2, h3])
      | ((with_reducible refine CallK.pure (i4) (Wks.refl _) ?_); simp [upd, hw, h1, h2, h3])
      | ((with_reducible refine CallK.pure (i5) (Wks.refl _) ?_); simp [upd, hw, h1, h2, h3])
      | ((with_reducible refine CallK.pure (i6) (Wks.refl _) ?_); simp [upd, hw, h1, h2, h3])
      | ((with_reducible refine CallK.pure (i7) (Wks.refl _) ?_); simp [upd, hw, h1, h2, h3])
      | ((with_reducible refine CallK.pure (i8) (Wks.refl _) ?_); simp [upd, hw, h1, h2, h3])
      | (refine Tri.exit ?_; simp [upd, hw, h1, h2, h3]; first | (rename ∀ st, Tri _ _ _ st _ → _ => hK; first | (apply hK; clear hK) | (clear hK; rename ∀ st, Tri _ _ _ st _ → _ => hK; first | (apply hK; clear hK) | (clear hK; rename ∀ st, Tri _ _ _ st _ → _ => hK; first | (apply hK; clear hK) | (clear hK; rename ∀ st, Tri _ _ _ st _ → _ => hK; first | (apply hK; clear hK) | (clear hK; rename ∀ st, Tri _ _ _ st _ → _ => hK; first | (apply hK; clear hK) | (clear hK; rename ∀ st, Tri _ _ _ st _ → _ => hK; apply hK; clear hK)))))) | skip)
      | (intro β)
      | (rename ∀ st, Tri _ _ _ st _ → _ => hK; apply hK; clear hK))
    refine Tri.ret ⟨_, rfl, ?_⟩
    simp [upd]
    exact Wk.refl _
  cases h4 : belowB a.off 16
  case false =>
    repeat (first
      | (refine Tri.seq fun K hK => ?_)
      | (refine Tri.region ?_; simp [upd, hw, h1, h2, h3, h4])
      | (refine Tri.draw (by kernel_rfl) (by decide +kernel) ?_; simp [upd, hw, h1, h2, h3, h4])
      | (refine Tri.cond_true ?_ ?_; (focus simp [upd, hw, h1, h2, h3, h4]; done))
      | (refine Tri.cond_false ?_ ?_; (focus simp [upd, hw, h1, h2, h3, h4]; done))
      | (refine Tri.skip ?_; simp only [thenS, blockS])
      | (refine Tri.block_seq ?_)
      | (refine Tri.block_region ?_)
      | (refine Tri.block_cond ?_)
      | ((with_reducible refine CallK.pure (i1) (Wks.refl _) ?_); simp [upd, hw, h1, h2, h3, h4])
      | ((with_reducible refine CallK.pure (i2) (Wks.refl _) ?_); simp [upd, hw, h1, h2, h3, h4])
      | ((with_reducible refine CallK.pure (i3) (Wks.refl _) ?_); simp [upd, hw, h1, h2, h3, h4])
      | ((with_reducible refine CallK.pure (i4) (Wks.refl _) ?_); simp [upd, hw, h1, h2, h3, h4])
      | ((with_reducible refine CallK.pure (i5) (Wks.refl _) ?_); simp [upd, hw, h1, h2, h3, h4])
      | ((with_reducible refine CallK.pure (i6) (Wks.refl _) ?_); simp [upd, hw, h1, h2, h3, h4])
      | ((with_reducible refine CallK.pure (i7) (Wks.refl _) ?_); simp [upd, hw, h1, h2, h3, h4])
      | ((with_reducible refine CallK.pure (i8) (Wks.refl _) ?_); simp [upd, hw, h1, h2, h3, h4])
      | (refine Tri.exit ?_; simp [upd, hw, h1, h2, h3, h4]; first | (rename ∀ st, Tri _ _ _ st _ → _ => hK; first | (apply hK; clear hK) | (clear hK; rename ∀ st, Tri _ _ _ st _ → _ => hK; first | (apply hK; clear hK) | (clear hK; rename ∀ st, Tri _ _ _ st _ → _ => hK; first | (apply hK; clear hK) | (clear hK; rename ∀ st, Tri _ _ _ st _ → _ => hK; first | (apply hK; clear hK) | (clear hK; rename ∀ st, Tri _ _ _ st _ → _ => hK; first | (apply hK; clear hK) | (clear hK; rename ∀ st, Tri _ _ _ st _ → _ => hK; apply hK; clear hK)))))) | skip)
      | (intro β)
      | (rename ∀ st, Tri _ _ _ st _ → _ => hK; apply hK; clear hK))
    refine Tri.ret ⟨_, rfl, ?_⟩
    simp [upd]
    exact Wk.refl _
  cases h5 : belowB a.frm 32
  case false =>
    repeat (first
      | (refine Tri.seq fun K hK => ?_)
      | (refine Tri.region ?_; simp [upd, hw, h1, h2, h3, h4, h5])
      | (refine Tri.draw (by kernel_rfl) (by decide +kernel) ?_; simp [upd, hw, h1, h2, h3, h4, h5])
      | (refine Tri.cond_true ?_ ?_; (focus simp [upd, hw, h1, h2, h3, h4, h5]; done))
      | (refine Tri.cond_false ?_ ?_; (focus simp [upd, hw, h1, h2, h3, h4, h5]; done))
      | (refine Tri.skip ?_; simp only [thenS, blockS])
      | (refine Tri.block_seq ?_)
      | (refine Tri.block_region ?_)
      | (refine Tri.block_cond ?_)
      | ((with_reducible refine CallK.pure (i1) (Wks.refl _) ?_); simp [upd, hw, h1, h2, h3, h4, h5])
      | ((with_reducible refine CallK.pure (i2) (Wks.refl _) ?_); simp [upd, hw, h1, h2, h3, h4, h5])
      | ((with_reducible refine CallK.pure (i3) (Wks.refl _) ?_); simp [upd, hw, h1, h2, h3, h4, h5])
      | ((with_reducible refine CallK.pure (i4) (Wks.refl _) ?_); simp [upd, hw, h1, h2, h3, h4, h5])
      | ((with_reducible refine CallK.pure (i5) (Wks.refl _) ?_); simp [upd, hw, h1, h2, h3, h4, h5])
      | ((with_reducible refine CallK.pure (i6) (Wks.refl _) ?_); simp [upd, hw, h1, h2, h3, h4, h5])
      | ((with_reducible refine CallK.pure (i7) (Wks.refl _) ?_); simp [upd, hw, h1, h2, h3, h4, h5])
      | ((with_reducible refine CallK.pure (i8) (Wks.refl _) ?_); simp [upd, hw, h1, h2, h3, h4, h5])
      | (refine Tri.exit ?_; simp [upd, hw, h1, h2, h3, h4, h5]; first | (rename ∀ st, Tri _ _ _ st _ → _ => hK; first | (apply hK; clear hK) | (clear hK; rename ∀ st, Tri _ _ _ st _ → _ => hK; first | (apply hK; clear hK) | (clear hK; rename ∀ st, Tri _ _ _ st _ → _ => hK; first | (apply hK; clear hK) | (clear hK; rename ∀ st, Tri _ _ _ st _ → _ => hK; first | (apply hK; clear hK) | (clear hK; rename ∀ st, Tri _ _ _ st _ → _ => hK; first | (apply hK; clear hK) | (clear hK; rename ∀ st, Tri _ _ _ st _ → _ => hK; apply hK; clear hK)))))) | skip)
      | (intro β)
      | (rename ∀ st, Tri _ _ _ st _ → _ => hK; apply hK; clear hK))
    refine Tri.ret ⟨_, rfl, ?_⟩
    simp [upd]
    exact Wk.refl _
  cases h6 : belowB a.to 32
  case false =>
    repeat (first
      | (refine Tri.seq fun K hK => ?_)
      | (refine Tri.region ?_; simp [upd, hw, h1, h2, h3, h4, h5, h6])
      | (refine Tri.draw (by kernel_rfl) (by decide +kernel) ?_; simp [upd, hw, h1, h2, h3, h4, h5, h6])
      | (refine Tri.cond_true ?_ ?_; (focus simp [upd, hw, h1, h2, h3, h4, h5, h6]; done))
      | (refine Tri.cond_false ?_ ?_; (focus simp [upd, hw, h1, h2, h3, h4, h5, h6]; done))
      | (refine Tri.skip ?_; simp only [thenS, blockS])
      | (refine Tri.block_seq ?_)
      | (refine Tri.block_region ?_)
      | (refine Tri.block_cond ?_)
      | ((with_reducible refine CallK.pure (i1) (Wks.refl _) ?_); simp [upd, hw, h1, h2, h3, h4, h5, h6])
      | ((with_reducible refine CallK.pure (i2) (Wks.refl _) ?_); simp [upd, hw, h1, h2, h3, h4, h5, h6])
      | ((with_reducible refine CallK.pure (i3) (Wks.refl _) ?_); simp [upd, hw, h1, h2, h3, h4, h5, h6])
      | ((with_reducible refine CallK.pure (i4) (Wks.refl _) ?_); simp [upd, hw, h1, h2, h3, h4, h5, h6])
      | ((with_reducible refine CallK.pure (i5) (Wks.refl _) ?_); simp [upd, hw, h1, h2, h3, h4, h5, h6])
      | ((with_reducible refine CallK.pure (i6) (Wks.refl _) ?_); simp [upd, hw, h1, h2, h3, h4, h5, h6])
      | ((with_reducible refine CallK.pure (i7) (Wks.refl _) ?_); simp [upd, hw, h1, h2, h3, h4, h5, h6])
      | ((with_reducible refine CallK.pure (i8) (Wks.refl _) ?_); simp [upd, hw, h1, h2, h3, h4, h5, h6])
      | (refine Tri.exit ?_; simp [upd, hw, h1, h2, h3, h4, h5, h6]; first | (rename ∀ st, Tri _ _ _ st _ → _ => hK; first | (apply hK; clear hK) | (clear hK; rename ∀ st, Tri _ _ _ st _ → _ => hK; first | (apply hK; clear hK) | (clear hK; rename ∀ st, Tri _ _ _ st _ → _ => hK; first | (apply hK; clear hK) | (clear hK; rename ∀ st, Tri _ _ _ st _ → _ => hK; first | (apply hK; clear hK) | (clear hK; rename ∀ st, Tri _ _ _ st _ → _ => hK; first | (apply hK; clear hK) | (clear hK; rename ∀ st, Tri _ _ _ st _ → _ => hK; apply hK; clear hK)))))) | skip)
      | (intro β)
      | (rename ∀ st, Tri _ _ _ st _ → _ => hK; apply hK; clear hK))
    refine Tri.ret ⟨_, rfl, ?_⟩
    simp [upd]
    exact Wk.refl _
  cases h7 : (a.frm == a.to)
  case true =>
    repeat (first
      | (refine Tri.seq fun K hK => ?_)
      | (refine Tri.region ?_; simp [upd, hw, h1, h2, h3, h4, h5, h6, h7, bne])
      | (refine Tri.draw (by kernel_rfl) (by decide +kernel) ?_; simp [upd, hw, h1, h2, h3, h4, h5, h6, h7, bne])
      | (refine Tri.cond_true ?_ ?_; (focus simp [upd, hw, h1, h2, h3, h4, h5, h6, h7, bne]; done))
      | (refine Tri.cond_false ?_ ?_; (focus simp [upd, hw, h1, h2, h3, h4, h5, h6, h7, bne]; done))
      | (refine Tri.skip ?_; simp only [thenS, blockS])
      | (refine Tri.block_seq ?_)
      | (refine Tri.block_region ?_)
      | (refine Tri.block_cond ?_)
      | ((with_reducible refine CallK.pure (i1) (Wks.refl _) ?_); simp [upd, hw, h1, h2, h3, h4, h5, h6, h7, bne])
      | ((with_reducible refine CallK.pure (i2) (Wks.refl _) ?_); simp [upd, hw, h1, h2, h3, h4, h5, h6, h7, bne])
      | ((with_reducible refine CallK.pure (i3) (Wks.refl _) ?_); simp [upd, hw, h1, h2, h3, h4, h5, h6, h7, bne])
      | ((with_reducible refine CallK.pure (i4) (Wks.refl _) ?_); simp [upd, hw, h1, h2, h3, h4, h5, h6, h7, bne])
      | ((with_reducible refine CallK.pure (i5) (Wks.refl _) ?_); simp [upd, hw, h1, h2, h3, h4, h5, h6, h7, bne])
      | ((with_reducible refine CallK.pure (i6) (Wks.refl _) ?_); simp [upd, hw, h1, h2, h3, h4, h5, h6, h7, bne])
      | ((with_reducible refine CallK.pure (i7) (Wks.refl _) ?_); simp [upd, hw, h1, h2, h3, h4, h5, h6, h7, bne])
      | ((with_reducible refine CallK.pure (i8) (Wks.refl _) ?_); simp [upd, hw, h1, h2, h3, h4, h5, h6, h7, bne])
      | (refine Tri.exit ?_; simp [upd, hw, h1, h2, h3, h4, h5, h6, h7, bne]; first | (rename ∀ st, Tri _ _ _ st _ → _ => hK; first | (apply hK; clear hK) | (clear hK; rename ∀ st, Tri _ _ _ st _ → _ => hK; first | (apply hK; clear hK) | (clear hK; rename ∀ st, Tri _ _ _ st _ → _ => hK; first | (apply hK; clear hK) | (clear hK; rename ∀ st, Tri _ _ _ st _ → _ => hK; first | (apply hK; clear hK) | (clear hK; rename ∀ st, Tri _ _ _ st _ → _ => hK; first | (apply hK; clear hK) | (clear hK; rename ∀ st, Tri _ _ _ st _ → _ => hK; apply hK; clear hK)))))) | skip)
      | (intro β)
      | (rename ∀ st, Tri _ _ _ st _ → _ => hK; apply hK; clear hK))
    refine Tri.ret ⟨_, rfl, ?_⟩
    simp [upd]
    exact Wk.refl _
  cases h8 : belowB a.flow 256
  case false =>
    repeat (first
      | (refine Tri.seq fun K hK => ?_)
      | (refine Tri.region ?_; simp [upd, hw, h1, h2, h3, h4, h5, h6, h7, h8, bne])
      | (refine Tri.draw (by kernel_rfl) (by decide +kernel) ?_; simp [upd, hw, h1, h2, h3, h4, h5, h6, h7, h8, bne])
      | (refine Tri.cond_true ?_ ?_; (focus simp [upd, hw, h1, h2, h3, h4, h5, h6, h7, h8, bne]; done))
      | (refine Tri.cond_false ?_ ?_; (focus simp [upd, hw, h1, h2, h3, h4, h5, h6, h7, h8, bne]; done))
      | (refine Tri.skip ?_; simp only [thenS, blockS])
      | (refine Tri.block_seq ?_)
      | (refine Tri.block_region ?_)
      | (refine Tri.block_cond ?_)
      | ((with_reducible refine CallK.pure (i1) (Wks.refl _) ?_); simp [upd, hw, h1, h2, h3, h4, h5, h6, h7, h8, bne])
      | ((with_reducible refine CallK.pure (i2) (Wks.refl _) ?_); simp [upd, hw, h1, h2, h3, h4, h5, h6, h7, h8, bne])
      | ((with_reducible refine CallK.pure (i3) (Wks.refl _) ?_); simp [upd, hw, h1, h2, h3, h4, h5, h6, h7, h8, bne])
      | ((with_reducible refine CallK.pure (i4) (Wks.refl _) ?_); simp [upd, hw, h1, h2, h3, h4, h5, h6, h7, h8, bne])
      | ((with_reducible refine CallK.pure (i5) (Wks.refl _) ?_); simp [upd, hw, h1, h2, h3, h4, h5, h6, h7, h8, bne])
      | ((with_reducible refine CallK.pure (i6) (Wks.refl _) ?_); simp [upd, hw, h1, h2, h3, h4, h5, h6, h7, h8, bne])
      | ((with_reducible refine CallK.pure (i7) (Wks.refl _) ?_); simp [upd, hw, h1, h2, h3, h4, h5, h6, h7, h8, bne])
      | ((with_reducible refine CallK.pure (i8) (Wks.refl _) ?_); simp [upd, hw, h1, h2, h3, h4, h5, h6, h7, h8, bne])
      | (refine Tri.exit ?_; simp [upd, hw, h1, h2, h3, h4, h5, h6, h7, h8, bne]; first | (rename ∀ st, Tri _ _ _ st _ → _ => hK; first | (apply hK; clear hK) | (clear hK; rename ∀ st, Tri _ _ _ st _ → _ => hK; first | (apply hK; clear hK) | (clear hK; rename ∀ st, Tri _ _ _ st _ → _ => hK; first | (apply hK; clear hK) | (clear hK; rename ∀ st, Tri _ _ _ st _ → _ => hK; first | (apply hK; clear hK) | (clear hK; rename ∀ st, Tri _ _ _ st _ → _ => hK; first | (apply hK; clear hK) | (clear hK; rename ∀ st, Tri _ _ _ st _ → _ => hK; apply hK; clear hK)))))) | skip)
      | (intro β)
      | (rename ∀ st, Tri _ _ _ st _ → _ => hK; apply hK; clear hK))
    refine Tri.ret ⟨_, rfl, ?_⟩
    simp [upd]
    exact Wk.refl _
  repeat (first
    | (refine Tri.seq fun K hK => ?_)
    | (refine Tri.region ?_; simp [upd, hw, h1, h2, h3, h4, h5, h6, h7, h8, bne])
    | (refine Tri.draw (by kernel_rfl) (by decide +kernel) ?_; simp [upd, hw, h1, h2, h3, h4, h5, h6, h7, h8, bne])
    | (refine Tri.cond_true ?_ ?_; (focus simp [upd, hw, h1, h2, h3, h4, h5, h6, h7, h8, bne]; done))
    | (refine Tri.cond_false ?_ ?_; (focus simp [upd, hw, h1, h2, h3, h4, h5, h6, h7, h8, bne]; done))
    | (refine Tri.skip ?_; simp only [thenS, blockS])
    | (refine Tri.block_seq ?_)
    | (refine Tri.block_region ?_)
    | (refine Tri.block_cond ?_)
    | ((with_reducible refine CallK.pure (i1) (Wks.refl _) ?_); simp [upd, hw, h1, h2, h3, h4, h5, h6, h7, h8, bne])
    | ((with_reducible refine CallK.pure (i2) (Wks.refl _) ?_); simp [upd, hw, h1, h2, h3, h4, h5, h6, h7, h8, bne])
    | ((with_reducible refine CallK.pure (i3) (Wks.refl _) ?_); simp [upd, hw, h1, h2, h3, h4, h5, h6, h7, h8, bne])
    | ((with_reducible refine CallK.pure (i4) (Wks.refl _) ?_); simp [upd, hw, h1, h2, h3, h4, h5, h6, h7, h8, bne])
    | ((with_reducible refine CallK.pure (i5) (Wks.refl _) ?_); simp [upd, hw, h1, h2, h3, h4, h5, h6, h7, h8, bne])
    | ((with_reducible refine CallK.pure (i6) (Wks.refl _) ?_); simp [upd, hw, h1, h2, h3, h4, h5, h6, h7, h8, bne])
    | ((with_reducible refine CallK.pure (i7) (Wks.refl _) ?_); simp [upd, hw, h1, h2, h3, h4, h5, h6, h7, h8, bne])
    | ((with_reducible refine CallK.pure (i8) (Wks.refl _) ?_); simp [upd, hw, h1, h2, h3, h4, h5, h6, h7, h8, bne])
    | (refine Tri.exit ?_; simp [upd, hw, h1, h2, h3, h4, h5, h6, h7, h8, bne]; first | (rename ∀ st, Tri _ _ _ st _ → _ => hK; first | (apply hK; clear hK) | (clear hK; rename ∀ st, Tri _ _ _ st _ → _ => hK; first | (apply hK; clear hK) | (clear hK; rename ∀ st, Tri _ _ _ st _ → _ => hK; first | (apply hK; clear hK) | (clear hK; rename ∀ st, Tri _ _ _ st _ → _ => hK; first | (apply hK; clear hK) | (clear hK; rename ∀ st, Tri _ _ _ st _ → _ => hK; first | (apply hK; clear hK) | (clear hK; rename ∀ st, Tri _ _ _ st _ → _ => hK; apply hK; clear hK)))))) | skip)
    | (intro β)
    | (rename ∀ st, Tri _ _ _ st _ → _ => hK; apply hK; clear hK))
  refine Tri.ret ⟨_, rfl, ?_⟩
  simp [upd]
  exact Wk.refl _
structure KI (r : Rec) (st : St) (b1 : Nat) : Prop where
  hn : st.n = 152
  s1 : st.sl 1 = .c (.box 1 b1 0)
  x1 : st.bx 1 = some (b1, [.int .i64 r.slots, .sl r.an 8 none (r.atts.map attC), .sl r.dn 3 none (r.dels.map delC)])
/-- The first i attempts are in order. -/
def UpA (r : Rec) (i : Nat) : Prop := (∀ k (_ : k < r.atts.length), k < i → attOk r.atts[k] r.slots = true) ∧ ∀ k l (_ : k < r.atts.length) (_ : l < r.atts.length), k < l → l < i → okA r.atts[k] r.atts[l]
def UpD (r : Rec) (i : Nat) : Prop := (∀ k (_ : k < r.dels.length), k < i → delOk r.dels[k] r.slots) ∧ ∀ k l (_ : k < r.dels.length) (_ : l < r.dels.length), k < l → l < i → ltD r.dels[k] r.dels[l]
theorem UpA.all {r : Rec} (h : UpA r r.atts.length) : AttsP r.slots r.atts :=
  ⟨fun a ha => by obtain ⟨k, hk, rfl⟩ := List.getElem_of_mem ha; exact h.1 k hk hk, List.pairwise_iff_getElem.2 fun k l hk hl hkl => h.2 k l hk hl hkl hl⟩
theorem UpD.all {r : Rec} (h : UpD r r.dels.length) : DelsP r.slots r.dels :=
  ⟨fun a ha => by obtain ⟨k, hk, rfl⟩ := List.getElem_of_mem ha; exact h.1 k hk hk, List.pairwise_iff_getElem.2 fun k l hk hl hkl => h.2 k l hk hl hkl hl⟩
theorem UpA.succ {r : Rec} {i : Nat} (h : UpA r i) (hi : i < r.atts.length) (ho : attOk r.atts[i] r.slots = true) (hk : ∀ k (_ : k < r.atts.length), k < i → okA r.atts[k] r.atts[i]) : UpA r (i + 1) := by
  refine ⟨fun k hkl hki => ?_, fun k l hkl hll hlt hli => ?_⟩
  · rcases Nat.lt_succ_iff_lt_or_eq.1 hki with h' | rfl
    · exact h.1 k hkl h'
    · exact ho
  · rcases Nat.lt_succ_iff_lt_or_eq.1 hli with h' | rfl
    · exact h.2 k l hkl hll hlt h'
    · exact hk k hkl hlt
theorem UpD.succ {r : Rec} {i : Nat} (h : UpD r i) (hi : i < r.dels.length) (ho : delOk r.dels[i] r.slots) (hk : ∀ k (_ : k < r.dels.length), k < i → ltD r.dels[k] r.dels[i]) : UpD r (i + 1) := by
  refine ⟨fun k hkl hki => ?_, fun k l hkl hll hlt hli => ?_⟩
  · rcases Nat.lt_succ_iff_lt_or_eq.1 hki with h' | rfl
    · exact h.1 k hkl h'
    · exact ho
  · rcases Nat.lt_succ_iff_lt_or_eq.1 hli with h' | rfl
    · exact h.2 k l hkl hll hlt h'
    · exact hk k hkl hlt
theorem UpA.ltA {r : Rec} {p : Nat} (h : UpA r (p + 1)) (hp : p + 1 < r.atts.length) (hl : cmpA r.atts[p] r.atts[p + 1] < 0) : ∀ k (_ : k < r.atts.length), k < p + 1 → ltA r.atts[k] r.atts[p + 1] := by
  intro k hk hkp
  have h1 := (cmpA_lt _ _).1 hl
  rcases Nat.lt_succ_iff_lt_or_eq.1 hkp with h' | rfl
  · exact ltA_trans (h.2 k p hk (by omega) h' (by omega)).1 h1
  · exact h1
theorem not_order {r : Rec} (h : ¬ InOrder r) : check r = 1 := by
  have : ¬ check r = 0 := fun e => h ((check_iff r).1 e)
  unfold check at this ⊢
  split <;> simp_all
theorem bad_att {r : Rec} (i : Nat) (hi : i < r.atts.length) (h : attOk r.atts[i] r.slots = false) : check r = 1 :=
  not_order fun ho => by have := ho.atts.1 _ (List.getElem_mem hi); rw [h] at this; cases this
theorem bad_pair {r : Rec} (i j : Nat) (hi : i < r.atts.length) (hj : j < i) (h : ¬ okA r.atts[j] r.atts[i]) : check r = 1 :=
  not_order fun ho => h (List.pairwise_iff_getElem.1 ho.atts.2 j i (by omega) hi hj)
theorem bad_del {r : Rec} (i : Nat) (hi : i < r.dels.length) (h : ¬ delOk r.dels[i] r.slots) : check r = 1 :=
  not_order fun ho => h (ho.dels.1 _ (List.getElem_mem hi))
theorem bad_dpair {r : Rec} (i j : Nat) (hi : i < r.dels.length) (hj : j < i) (h : ¬ ltD r.dels[j] r.dels[i]) : check r = 1 :=
  not_order fun ho => h (List.pairwise_iff_getElem.1 ho.dels.2 j i (by omega) hi hj)
def KInv1 (r : Rec) (m : Nat) (st : St) : Prop := ∃ b1 i, KI r st b1 ∧ m + i = r.atts.length ∧ st.sl 3 = .c (.int .i64 (i : Nat)) ∧ UpA r i
def KEnd1 (r : Rec) (st : St) : Prop := ∃ b1, KI r st b1 ∧ UpA r r.atts.length
def KInv2 (r : Rec) (i : Nat) (b4 : Nat) (a : Att) (m : Nat) (st : St) : Prop := ∃ (b1 : Nat) (j : Int), KI r st b1 ∧ st.sl 4 = .c (.box 4 b4 0) ∧ st.bx 4 = some (b4, attC a) ∧ st.sl 3 = .c (.int .i64 (i : Nat)) ∧ st.sl 5 = .c (.int .i64 j) ∧ (m : Int) = j + 1 ∧ j < i ∧ ∀ k (_ : k < r.atts.length), j < (k : Int) → k < i → r.atts[k].frm ≠ a.frm
def KEnd2 (r : Rec) (i : Nat) (a : Att) (st : St) : Prop := ∃ b1, KI r st b1 ∧ st.sl 3 = .c (.int .i64 (i : Nat)) ∧ ∀ k (_ : k < r.atts.length), k < i → ¬ (r.atts[k].slot = a.slot ∧ r.atts[k].frm = a.frm)
def KInv3 (r : Rec) (m : Nat) (st : St) : Prop := ∃ b1 i, KI r st b1 ∧ m + i = r.dels.length ∧ st.sl 6 = .c (.int .i64 (i : Nat)) ∧ UpD r i
theorem ltD_trans {a b c : Del} (h1 : ltD a b) (h2 : ltD b c) : ltD a c := by
  unfold ltD at *
  omega
theorem checkR_does (r : Rec) : Does Try.prog 58 [.agg (recC r)] (.c (.int .i64 (check r))) := by
  refine Does.of_body Try.func58 rfl (by kernel_rfl) rfl rfl (by simp) ?_
  intro E
  have i0 := in0_does r.slots 4096 4097 (by omega)
  have hck := check_iff r
  simp only [recC]
  cases g1 : belowB r.slots 4097
  case false =>
    rw [not_order (r := r) fun h => by
      have := h.s0; have := h.s1
      simp [belowB] at g1; omega]
    repeat (first
      | (refine Tri.seq fun K hK => ?_)
      | (refine Tri.region ?_; simp [upd, g1])
      | (refine Tri.draw (by kernel_rfl) (by decide +kernel) ?_; simp [upd, g1])
      | (refine Tri.cond_true ?_ ?_; (focus simp [upd, g1]; done))
      | (refine Tri.cond_false ?_ ?_; (focus simp [upd, g1]; done))
      | (refine Tri.skip ?_; simp only [thenS, blockS])
      | (refine Tri.block_seq ?_)
      | (refine Tri.block_region ?_)
      | (refine Tri.block_cond ?_)
      | ((with_reducible refine CallK.pure (i0) (Wks.refl _) ?_); simp [upd, g1])
      | (refine Tri.exit ?_; simp [upd, g1]; first | (rename ∀ st, Tri _ _ _ st _ → _ => hK; first | (apply hK; clear hK) | (clear hK; rename ∀ st, Tri _ _ _ st _ → _ => hK; first | (apply hK; clear hK) | (clear hK; rename ∀ st, Tri _ _ _ st _ → _ => hK; first | (apply hK; clear hK) | (clear hK; rename ∀ st, Tri _ _ _ st _ → _ => hK; first | (apply hK; clear hK) | (clear hK; rename ∀ st, Tri _ _ _ st _ → _ => hK; first | (apply hK; clear hK) | (clear hK; rename ∀ st, Tri _ _ _ st _ → _ => hK; apply hK; clear hK)))))) | skip)
      | (intro β)
      | (rename ∀ st, Tri _ _ _ st _ → _ => hK; apply hK; clear hK))
    refine Tri.ret ⟨_, rfl, ?_⟩
    simp [upd]
    exact Wk.refl _
  by_cases g2 : (65536 : Int) < (r.atts.length : Int)
  · rw [not_order (r := r) fun h => by have := h.al; omega]
    repeat (first
      | (refine Tri.seq fun K hK => ?_)
      | (refine Tri.region ?_; simp [upd, g1, g2])
      | (refine Tri.draw (by kernel_rfl) (by decide +kernel) ?_; simp [upd, g1, g2])
      | (refine Tri.cond_true ?_ ?_; (focus simp [upd, g1, g2]; done))
      | (refine Tri.cond_false ?_ ?_; (focus simp [upd, g1, g2]; done))
      | (refine Tri.skip ?_; simp only [thenS, blockS])
      | (refine Tri.block_seq ?_)
      | (refine Tri.block_region ?_)
      | (refine Tri.block_cond ?_)
      | ((with_reducible refine CallK.pure (i0) (Wks.refl _) ?_); simp [upd, g1, g2])
      | (refine Tri.exit ?_; simp [upd, g1, g2]; first | (rename ∀ st, Tri _ _ _ st _ → _ => hK; first | (apply hK; clear hK) | (clear hK; rename ∀ st, Tri _ _ _ st _ → _ => hK; first | (apply hK; clear hK) | (clear hK; rename ∀ st, Tri _ _ _ st _ → _ => hK; first | (apply hK; clear hK) | (clear hK; rename ∀ st, Tri _ _ _ st _ → _ => hK; first | (apply hK; clear hK) | (clear hK; rename ∀ st, Tri _ _ _ st _ → _ => hK; first | (apply hK; clear hK) | (clear hK; rename ∀ st, Tri _ _ _ st _ → _ => hK; apply hK; clear hK)))))) | skip)
      | (intro β)
      | (rename ∀ st, Tri _ _ _ st _ → _ => hK; apply hK; clear hK))
    refine Tri.ret ⟨_, rfl, ?_⟩
    simp [upd]
    exact Wk.refl _
  by_cases g3 : (65536 : Int) < (r.dels.length : Int)
  · rw [not_order (r := r) fun h => by have := h.dl; omega]
    repeat (first
      | (refine Tri.seq fun K hK => ?_)
      | (refine Tri.region ?_; simp [upd, g1, g2, g3])
      | (refine Tri.draw (by kernel_rfl) (by decide +kernel) ?_; simp [upd, g1, g2, g3])
      | (refine Tri.cond_true ?_ ?_; (focus simp [upd, g1, g2, g3]; done))
      | (refine Tri.cond_false ?_ ?_; (focus simp [upd, g1, g2, g3]; done))
      | (refine Tri.skip ?_; simp only [thenS, blockS])
      | (refine Tri.block_seq ?_)
      | (refine Tri.block_region ?_)
      | (refine Tri.block_cond ?_)
      | ((with_reducible refine CallK.pure (i0) (Wks.refl _) ?_); simp [upd, g1, g2, g3])
      | (refine Tri.exit ?_; simp [upd, g1, g2, g3]; first | (rename ∀ st, Tri _ _ _ st _ → _ => hK; first | (apply hK; clear hK) | (clear hK; rename ∀ st, Tri _ _ _ st _ → _ => hK; first | (apply hK; clear hK) | (clear hK; rename ∀ st, Tri _ _ _ st _ → _ => hK; first | (apply hK; clear hK) | (clear hK; rename ∀ st, Tri _ _ _ st _ → _ => hK; first | (apply hK; clear hK) | (clear hK; rename ∀ st, Tri _ _ _ st _ → _ => hK; first | (apply hK; clear hK) | (clear hK; rename ∀ st, Tri _ _ _ st _ → _ => hK; apply hK; clear hK)))))) | skip)
      | (intro β)
      | (rename ∀ st, Tri _ _ _ st _ → _ => hK; apply hK; clear hK))
    refine Tri.ret ⟨_, rfl, ?_⟩
    simp [upd]
    exact Wk.refl _
  have hs : 0 ≤ r.slots ∧ r.slots < 4097 := by simpa [belowB] using g1
  repeat (first
    | (refine Tri.seq fun K hK => ?_)
    | (refine Tri.region ?_; simp [upd, g1, g2, g3])
    | (refine Tri.draw (by kernel_rfl) (by decide +kernel) ?_; simp [upd, g1, g2, g3])
    | (refine Tri.cond_true ?_ ?_; (focus simp [upd, g1, g2, g3]; done))
    | (refine Tri.cond_false ?_ ?_; (focus simp [upd, g1, g2, g3]; done))
    | (refine Tri.skip ?_; simp only [thenS, blockS])
    | (refine Tri.block_seq ?_)
    | (refine Tri.block_region ?_)
    | (refine Tri.block_cond ?_)
    | ((with_reducible refine CallK.pure (i0) (Wks.refl _) ?_); simp [upd, g1, g2, g3])
    | (refine Tri.exit ?_; simp [upd, g1, g2, g3]; first | (rename ∀ st, Tri _ _ _ st _ → _ => hK; first | (apply hK; clear hK) | (clear hK; rename ∀ st, Tri _ _ _ st _ → _ => hK; first | (apply hK; clear hK) | (clear hK; rename ∀ st, Tri _ _ _ st _ → _ => hK; first | (apply hK; clear hK) | (clear hK; rename ∀ st, Tri _ _ _ st _ → _ => hK; first | (apply hK; clear hK) | (clear hK; rename ∀ st, Tri _ _ _ st _ → _ => hK; first | (apply hK; clear hK) | (clear hK; rename ∀ st, Tri _ _ _ st _ → _ => hK; apply hK; clear hK)))))) | skip)
    | (intro β)
    | (rename ∀ st, Tri _ _ _ st _ → _ => hK; apply hK; clear hK))
  rename ∀ st, Tri _ _ _ st _ → _ => hK
  have fin := fun (st : St) (h : KEnd1 r st) => hK st ?tail
  case tail =>
    obtain ⟨b1, ⟨hn, s1, x1⟩, hA⟩ := h
    clear hK
    repeat (first
      | (refine Tri.seq fun K hK => ?_)
      | (refine Tri.region ?_; simp [upd, hn, s1, x1])
      | (refine Tri.draw (by kernel_rfl) (by decide +kernel) ?_; simp [upd, hn, s1, x1])
      | (refine Tri.cond_true ?_ ?_; (focus simp [upd, hn, s1, x1]; done))
      | (refine Tri.cond_false ?_ ?_; (focus simp [upd, hn, s1, x1]; done))
      | (refine Tri.skip ?_; simp only [thenS, blockS])
      | (refine Tri.block_seq ?_)
      | (refine Tri.block_region ?_)
      | (refine Tri.block_cond ?_)
      | (refine Tri.exit ?_; simp [upd, hn, s1, x1]; first | (rename ∀ st, Tri _ _ _ st _ → _ => hK; first | (apply hK; clear hK) | (clear hK; rename ∀ st, Tri _ _ _ st _ → _ => hK; first | (apply hK; clear hK) | (clear hK; rename ∀ st, Tri _ _ _ st _ → _ => hK; first | (apply hK; clear hK) | (clear hK; rename ∀ st, Tri _ _ _ st _ → _ => hK; first | (apply hK; clear hK) | (clear hK; rename ∀ st, Tri _ _ _ st _ → _ => hK; first | (apply hK; clear hK) | (clear hK; rename ∀ st, Tri _ _ _ st _ → _ => hK; apply hK; clear hK)))))) | skip)
      | (intro β)
      | (rename ∀ st, Tri _ _ _ st _ → _ => hK; apply hK; clear hK))
    rename ∀ st, Tri _ _ _ st _ → _ => hK
    have fin3 := fun (st : St) (h : st.n = 152 ∧ UpD r r.dels.length) => hK st ?tail
    case tail =>
      obtain ⟨hn, hD⟩ := h
      have ho : check r = 0 := hck.2 ⟨hs.1, by omega, by omega, by omega, hA.all, hD.all⟩
      rw [ho]
      repeat (first
        | (refine Tri.seq fun K hK => ?_)
        | (refine Tri.region ?_; simp [upd, hn])
        | (refine Tri.draw (by kernel_rfl) (by decide +kernel) ?_; simp [upd, hn])
        | (refine Tri.cond_true ?_ ?_; (focus simp [upd, hn]; done))
        | (refine Tri.cond_false ?_ ?_; (focus simp [upd, hn]; done))
        | (refine Tri.skip ?_; simp only [thenS, blockS])
        | (refine Tri.block_seq ?_)
        | (refine Tri.block_region ?_)
        | (refine Tri.block_cond ?_)
        | (refine Tri.exit ?_; simp [upd, hn]; first | (rename ∀ st, Tri _ _ _ st _ → _ => hK; first | (apply hK; clear hK) | (clear hK; rename ∀ st, Tri _ _ _ st _ → _ => hK; first | (apply hK; clear hK) | (clear hK; rename ∀ st, Tri _ _ _ st _ → _ => hK; first | (apply hK; clear hK) | (clear hK; rename ∀ st, Tri _ _ _ st _ → _ => hK; first | (apply hK; clear hK) | (clear hK; rename ∀ st, Tri _ _ _ st _ → _ => hK; first | (apply hK; clear hK) | (clear hK; rename ∀ st, Tri _ _ _ st _ → _ => hK; apply hK; clear hK)))))) | skip)
        | (intro β)
        | (rename ∀ st, Tri _ _ _ st _ → _ => hK; apply hK; clear hK))
      refine Tri.ret ⟨_, rfl, ?_⟩
      simp [upd]
      exact Wk.refl _
    clear hK
    refine Tri.block (Tri.loop (KInv3 r) r.dels.length ?_ ?_)
    · exact ⟨b1, 0, ⟨rfl, by simp [upd, s1], by simpa using x1⟩, rfl, by simp [upd], ⟨fun k _ h => by omega, fun k l _ _ _ h => by omega⟩⟩
    · clear hn s1 x1
      rintro m st ⟨b1, i, ⟨hn, s1, x1⟩, hm, s6, hP⟩
      by_cases hi : i < r.dels.length
      case neg =>
        have : i = r.dels.length := by omega
        subst this
        repeat (first
          | (refine Tri.seq fun K hK => ?_)
          | (refine Tri.region ?_; simp [upd, hn, s1, x1, s6])
          | (refine Tri.draw (by kernel_rfl) (by decide +kernel) ?_; simp [upd, hn, s1, x1, s6])
          | (refine Tri.cond_true ?_ ?_; (focus simp [upd, hn, s1, x1, s6]; done))
          | (refine Tri.cond_false ?_ ?_; (focus simp [upd, hn, s1, x1, s6]; done))
          | (refine Tri.skip ?_; simp only [thenS, blockS])
          | (refine Tri.block_seq ?_)
          | (refine Tri.block_region ?_)
          | (refine Tri.block_cond ?_)
          | (refine Tri.exit ?_; simp [upd, hn, s1, x1, s6]; first | (rename ∀ st, Tri _ _ _ st _ → _ => hK; first | (apply hK; clear hK) | (clear hK; rename ∀ st, Tri _ _ _ st _ → _ => hK; first | (apply hK; clear hK) | (clear hK; rename ∀ st, Tri _ _ _ st _ → _ => hK; first | (apply hK; clear hK) | (clear hK; rename ∀ st, Tri _ _ _ st _ → _ => hK; first | (apply hK; clear hK) | (clear hK; rename ∀ st, Tri _ _ _ st _ → _ => hK; first | (apply hK; clear hK) | (clear hK; rename ∀ st, Tri _ _ _ st _ → _ => hK; apply hK; clear hK)))))) | skip)
          | (intro β)
          | (rename ∀ st, Tri _ _ _ st _ → _ => hK; apply hK; clear hK))
        apply fin3
        exact ⟨rfl, hP⟩
      have hw1 : IntKind.i64.wrap ((i : Int) + 1) = (i : Int) + 1 := wrap_i64 (by omega) (by omega)
      have hws : IntKind.i64.wrap (r.slots - 1) = r.slots - 1 := wrap_i64 (by omega) (by omega)
      have j1 := in0_does r.dels[i].slot (r.slots - 1) r.slots (by omega)
      have j2 := in0_does r.dels[i].flow 255 256 (by omega)
      have j3 := in0_does r.dels[i].frame 1048575 1048576 (by omega)
      have hok : delOk r.dels[i] r.slots ↔ belowB r.dels[i].slot r.slots = true ∧ belowB r.dels[i].flow 256 = true ∧ belowB r.dels[i].frame 1048576 = true := by
        simp only [delOk, belowB, decide_eq_true_eq]
        omega
      cases c1 : belowB r.dels[i].slot r.slots
      case false =>
        rw [bad_del i hi (fun h => by have := (hok.1 h).1; rw [c1] at this; cases this)]
        repeat (first
          | (refine Tri.seq fun K hK => ?_)
          | (refine Tri.region ?_; simp [upd, hn, s1, x1, s6, hi, hws, c1])
          | (refine Tri.draw (by kernel_rfl) (by decide +kernel) ?_; simp [upd, hn, s1, x1, s6, hi, hws, c1])
          | (refine Tri.cond_true ?_ ?_; (focus simp [upd, hn, s1, x1, s6, hi, hws, c1]; done))
          | (refine Tri.cond_false ?_ ?_; (focus simp [upd, hn, s1, x1, s6, hi, hws, c1]; done))
          | (refine Tri.skip ?_; simp only [thenS, blockS])
          | (refine Tri.block_seq ?_)
          | (refine Tri.block_region ?_)
          | (refine Tri.block_cond ?_)
          | ((with_reducible refine CallK.pure (j1) (Wks.refl _) ?_); simp [upd, hn, s1, x1, s6, hi, hws, c1])
          | ((with_reducible refine CallK.pure (j2) (Wks.refl _) ?_); simp [upd, hn, s1, x1, s6, hi, hws, c1])
          | ((with_reducible refine CallK.pure (j3) (Wks.refl _) ?_); simp [upd, hn, s1, x1, s6, hi, hws, c1])
          | (refine Tri.exit ?_; simp [upd, hn, s1, x1, s6, hi, hws, c1]; first | (rename ∀ st, Tri _ _ _ st _ → _ => hK; first | (apply hK; clear hK) | (clear hK; rename ∀ st, Tri _ _ _ st _ → _ => hK; first | (apply hK; clear hK) | (clear hK; rename ∀ st, Tri _ _ _ st _ → _ => hK; first | (apply hK; clear hK) | (clear hK; rename ∀ st, Tri _ _ _ st _ → _ => hK; first | (apply hK; clear hK) | (clear hK; rename ∀ st, Tri _ _ _ st _ → _ => hK; first | (apply hK; clear hK) | (clear hK; rename ∀ st, Tri _ _ _ st _ → _ => hK; apply hK; clear hK)))))) | skip)
          | (intro β)
          | (rename ∀ st, Tri _ _ _ st _ → _ => hK; apply hK; clear hK))
        refine Tri.ret ⟨_, rfl, ?_⟩
        simp [upd]
        exact Wk.refl _
      cases c2 : belowB r.dels[i].flow 256
      case false =>
        rw [bad_del i hi (fun h => by have := (hok.1 h).2.1; rw [c2] at this; cases this)]
        repeat (first
          | (refine Tri.seq fun K hK => ?_)
          | (refine Tri.region ?_; simp [upd, hn, s1, x1, s6, hi, hws, c1, c2])
          | (refine Tri.draw (by kernel_rfl) (by decide +kernel) ?_; simp [upd, hn, s1, x1, s6, hi, hws, c1, c2])
          | (refine Tri.cond_true ?_ ?_; (focus simp [upd, hn, s1, x1, s6, hi, hws, c1, c2]; done))
          | (refine Tri.cond_false ?_ ?_; (focus simp [upd, hn, s1, x1, s6, hi, hws, c1, c2]; done))
          | (refine Tri.skip ?_; simp only [thenS, blockS])
          | (refine Tri.block_seq ?_)
          | (refine Tri.block_region ?_)
          | (refine Tri.block_cond ?_)
          | ((with_reducible refine CallK.pure (j1) (Wks.refl _) ?_); simp [upd, hn, s1, x1, s6, hi, hws, c1, c2])
          | ((with_reducible refine CallK.pure (j2) (Wks.refl _) ?_); simp [upd, hn, s1, x1, s6, hi, hws, c1, c2])
          | ((with_reducible refine CallK.pure (j3) (Wks.refl _) ?_); simp [upd, hn, s1, x1, s6, hi, hws, c1, c2])
          | (refine Tri.exit ?_; simp [upd, hn, s1, x1, s6, hi, hws, c1, c2]; first | (rename ∀ st, Tri _ _ _ st _ → _ => hK; first | (apply hK; clear hK) | (clear hK; rename ∀ st, Tri _ _ _ st _ → _ => hK; first | (apply hK; clear hK) | (clear hK; rename ∀ st, Tri _ _ _ st _ → _ => hK; first | (apply hK; clear hK) | (clear hK; rename ∀ st, Tri _ _ _ st _ → _ => hK; first | (apply hK; clear hK) | (clear hK; rename ∀ st, Tri _ _ _ st _ → _ => hK; first | (apply hK; clear hK) | (clear hK; rename ∀ st, Tri _ _ _ st _ → _ => hK; apply hK; clear hK)))))) | skip)
          | (intro β)
          | (rename ∀ st, Tri _ _ _ st _ → _ => hK; apply hK; clear hK))
        refine Tri.ret ⟨_, rfl, ?_⟩
        simp [upd]
        exact Wk.refl _
      cases c3 : belowB r.dels[i].frame 1048576
      case false =>
        rw [bad_del i hi (fun h => by have := (hok.1 h).2.2; rw [c3] at this; cases this)]
        repeat (first
          | (refine Tri.seq fun K hK => ?_)
          | (refine Tri.region ?_; simp [upd, hn, s1, x1, s6, hi, hws, c1, c2, c3])
          | (refine Tri.draw (by kernel_rfl) (by decide +kernel) ?_; simp [upd, hn, s1, x1, s6, hi, hws, c1, c2, c3])
          | (refine Tri.cond_true ?_ ?_; (focus simp [upd, hn, s1, x1, s6, hi, hws, c1, c2, c3]; done))
          | (refine Tri.cond_false ?_ ?_; (focus simp [upd, hn, s1, x1, s6, hi, hws, c1, c2, c3]; done))
          | (refine Tri.skip ?_; simp only [thenS, blockS])
          | (refine Tri.block_seq ?_)
          | (refine Tri.block_region ?_)
          | (refine Tri.block_cond ?_)
          | ((with_reducible refine CallK.pure (j1) (Wks.refl _) ?_); simp [upd, hn, s1, x1, s6, hi, hws, c1, c2, c3])
          | ((with_reducible refine CallK.pure (j2) (Wks.refl _) ?_); simp [upd, hn, s1, x1, s6, hi, hws, c1, c2, c3])
          | ((with_reducible refine CallK.pure (j3) (Wks.refl _) ?_); simp [upd, hn, s1, x1, s6, hi, hws, c1, c2, c3])
          | (refine Tri.exit ?_; simp [upd, hn, s1, x1, s6, hi, hws, c1, c2, c3]; first | (rename ∀ st, Tri _ _ _ st _ → _ => hK; first | (apply hK; clear hK) | (clear hK; rename ∀ st, Tri _ _ _ st _ → _ => hK; first | (apply hK; clear hK) | (clear hK; rename ∀ st, Tri _ _ _ st _ → _ => hK; first | (apply hK; clear hK) | (clear hK; rename ∀ st, Tri _ _ _ st _ → _ => hK; first | (apply hK; clear hK) | (clear hK; rename ∀ st, Tri _ _ _ st _ → _ => hK; first | (apply hK; clear hK) | (clear hK; rename ∀ st, Tri _ _ _ st _ → _ => hK; apply hK; clear hK)))))) | skip)
          | (intro β)
          | (rename ∀ st, Tri _ _ _ st _ → _ => hK; apply hK; clear hK))
        refine Tri.ret ⟨_, rfl, ?_⟩
        simp [upd]
        exact Wk.refl _
      have hok := hok.2 ⟨c1, c2, c3⟩
      by_cases hi0 : 0 < i
      case neg =>
        repeat (first
          | (refine Tri.seq fun K hK => ?_)
          | (refine Tri.region ?_; simp [upd, hn, s1, x1, s6, hi, hi0, hws, c1, c2, c3, hw1])
          | (refine Tri.draw (by kernel_rfl) (by decide +kernel) ?_; simp [upd, hn, s1, x1, s6, hi, hi0, hws, c1, c2, c3, hw1])
          | (refine Tri.cond_true ?_ ?_; (focus simp [upd, hn, s1, x1, s6, hi, hi0, hws, c1, c2, c3, hw1]; done))
          | (refine Tri.cond_false ?_ ?_; (focus simp [upd, hn, s1, x1, s6, hi, hi0, hws, c1, c2, c3, hw1]; done))
          | (refine Tri.skip ?_; simp only [thenS, blockS])
          | (refine Tri.block_seq ?_)
          | (refine Tri.block_region ?_)
          | (refine Tri.block_cond ?_)
          | ((with_reducible refine CallK.pure (j1) (Wks.refl _) ?_); simp [upd, hn, s1, x1, s6, hi, hi0, hws, c1, c2, c3, hw1])
          | ((with_reducible refine CallK.pure (j2) (Wks.refl _) ?_); simp [upd, hn, s1, x1, s6, hi, hi0, hws, c1, c2, c3, hw1])
          | ((with_reducible refine CallK.pure (j3) (Wks.refl _) ?_); simp [upd, hn, s1, x1, s6, hi, hi0, hws, c1, c2, c3, hw1])
          | (refine Tri.exit ?_; simp [upd, hn, s1, x1, s6, hi, hi0, hws, c1, c2, c3, hw1]; first | (rename ∀ st, Tri _ _ _ st _ → _ => hK; first | (apply hK; clear hK) | (clear hK; rename ∀ st, Tri _ _ _ st _ → _ => hK; first | (apply hK; clear hK) | (clear hK; rename ∀ st, Tri _ _ _ st _ → _ => hK; first | (apply hK; clear hK) | (clear hK; rename ∀ st, Tri _ _ _ st _ → _ => hK; first | (apply hK; clear hK) | (clear hK; rename ∀ st, Tri _ _ _ st _ → _ => hK; first | (apply hK; clear hK) | (clear hK; rename ∀ st, Tri _ _ _ st _ → _ => hK; apply hK; clear hK)))))) | skip)
          | (intro β)
          | (rename ∀ st, Tri _ _ _ st _ → _ => hK; apply hK; clear hK))
        exact ⟨m - 1, by omega, b1, i + 1, ⟨rfl, by simp [upd, s1], by simpa using x1⟩, by omega, by simp [upd], hP.succ hi hok fun k hk hki => by omega⟩
      obtain ⟨p, hp⟩ : ∃ p, p = i - 1 := ⟨i - 1, rfl⟩
      have hpl : p < r.dels.length := by omega
      have hwp : IntKind.i64.wrap ((i : Int) - 1) = (p : Int) := by rw [wrap_i64 (by omega) (by omega)]; omega
      by_cases e1 : r.dels[i].slot < r.dels[p].slot
      · rw [bad_dpair i p hi (by omega) (fun h => by unfold ltD at h; omega)]
        repeat (first
          | (refine Tri.seq fun K hK => ?_)
          | (refine Tri.region ?_; simp [upd, hn, s1, x1, s6, hi, hi0, hws, c1, c2, c3, hw1, hwp, hpl, e1])
          | (refine Tri.draw (by kernel_rfl) (by decide +kernel) ?_; simp [upd, hn, s1, x1, s6, hi, hi0, hws, c1, c2, c3, hw1, hwp, hpl, e1])
          | (refine Tri.cond_true ?_ ?_; (focus simp [upd, hn, s1, x1, s6, hi, hi0, hws, c1, c2, c3, hw1, hwp, hpl, e1]; done))
          | (refine Tri.cond_false ?_ ?_; (focus simp [upd, hn, s1, x1, s6, hi, hi0, hws, c1, c2, c3, hw1, hwp, hpl, e1]; done))
          | (refine Tri.skip ?_; simp only [thenS, blockS])
          | (refine Tri.block_seq ?_)
          | (refine Tri.block_region ?_)
          | (refine Tri.block_cond ?_)
          | ((with_reducible refine CallK.pure (j1) (Wks.refl _) ?_); simp [upd, hn, s1, x1, s6, hi, hi0, hws, c1, c2, c3, hw1, hwp, hpl, e1])
          | ((with_reducible refine CallK.pure (j2) (Wks.refl _) ?_); simp [upd, hn, s1, x1, s6, hi, hi0, hws, c1, c2, c3, hw1, hwp, hpl, e1])
          | ((with_reducible refine CallK.pure (j3) (Wks.refl _) ?_); simp [upd, hn, s1, x1, s6, hi, hi0, hws, c1, c2, c3, hw1, hwp, hpl, e1])
          | (refine Tri.exit ?_; simp [upd, hn, s1, x1, s6, hi, hi0, hws, c1, c2, c3, hw1, hwp, hpl, e1]; first | (rename ∀ st, Tri _ _ _ st _ → _ => hK; first | (apply hK; clear hK) | (clear hK; rename ∀ st, Tri _ _ _ st _ → _ => hK; first | (apply hK; clear hK) | (clear hK; rename ∀ st, Tri _ _ _ st _ → _ => hK; first | (apply hK; clear hK) | (clear hK; rename ∀ st, Tri _ _ _ st _ → _ => hK; first | (apply hK; clear hK) | (clear hK; rename ∀ st, Tri _ _ _ st _ → _ => hK; first | (apply hK; clear hK) | (clear hK; rename ∀ st, Tri _ _ _ st _ → _ => hK; apply hK; clear hK)))))) | skip)
          | (intro β)
          | (rename ∀ st, Tri _ _ _ st _ → _ => hK; apply hK; clear hK))
        refine Tri.ret ⟨_, rfl, ?_⟩
        simp [upd]
        exact Wk.refl _
      cases e2 : (r.dels[i].slot == r.dels[p].slot)
      case false =>
        have hl : ltD r.dels[p] r.dels[i] := by
          simp only [beq_eq_false_iff_ne, ne_eq] at e2
          left; omega
        repeat (first
          | (refine Tri.seq fun K hK => ?_)
          | (refine Tri.region ?_; simp [upd, hn, s1, x1, s6, hi, hi0, hws, c1, c2, c3, hw1, hwp, hpl, e1, e2])
          | (refine Tri.draw (by kernel_rfl) (by decide +kernel) ?_; simp [upd, hn, s1, x1, s6, hi, hi0, hws, c1, c2, c3, hw1, hwp, hpl, e1, e2])
          | (refine Tri.cond_true ?_ ?_; (focus simp [upd, hn, s1, x1, s6, hi, hi0, hws, c1, c2, c3, hw1, hwp, hpl, e1, e2]; done))
          | (refine Tri.cond_false ?_ ?_; (focus simp [upd, hn, s1, x1, s6, hi, hi0, hws, c1, c2, c3, hw1, hwp, hpl, e1, e2]; done))
          | (refine Tri.skip ?_; simp only [thenS, blockS])
          | (refine Tri.block_seq ?_)
          | (refine Tri.block_region ?_)
          | (refine Tri.block_cond ?_)
          | ((with_reducible refine CallK.pure (j1) (Wks.refl _) ?_); simp [upd, hn, s1, x1, s6, hi, hi0, hws, c1, c2, c3, hw1, hwp, hpl, e1, e2])
          | ((with_reducible refine CallK.pure (j2) (Wks.refl _) ?_); simp [upd, hn, s1, x1, s6, hi, hi0, hws, c1, c2, c3, hw1, hwp, hpl, e1, e2])
          | ((with_reducible refine CallK.pure (j3) (Wks.refl _) ?_); simp [upd, hn, s1, x1, s6, hi, hi0, hws, c1, c2, c3, hw1, hwp, hpl, e1, e2])
          | (refine Tri.exit ?_; simp [upd, hn, s1, x1, s6, hi, hi0, hws, c1, c2, c3, hw1, hwp, hpl, e1, e2]; first | (rename ∀ st, Tri _ _ _ st _ → _ => hK; first | (apply hK; clear hK) | (clear hK; rename ∀ st, Tri _ _ _ st _ → _ => hK; first | (apply hK; clear hK) | (clear hK; rename ∀ st, Tri _ _ _ st _ → _ => hK; first | (apply hK; clear hK) | (clear hK; rename ∀ st, Tri _ _ _ st _ → _ => hK; first | (apply hK; clear hK) | (clear hK; rename ∀ st, Tri _ _ _ st _ → _ => hK; first | (apply hK; clear hK) | (clear hK; rename ∀ st, Tri _ _ _ st _ → _ => hK; apply hK; clear hK)))))) | skip)
          | (intro β)
          | (rename ∀ st, Tri _ _ _ st _ → _ => hK; apply hK; clear hK))
        exact ⟨m - 1, by omega, b1, i + 1, ⟨rfl, by simp [upd, s1], by simpa using x1⟩, by omega, by simp [upd], hP.succ hi hok fun k hk hki => by
          rcases Nat.lt_or_eq_of_le (show k ≤ p by omega) with h' | rfl
          · exact ltD_trans (hP.2 k p hk hpl h' (by omega)) hl
          · exact hl⟩
      by_cases e3 : r.dels[i].flow ≤ r.dels[p].flow
      · rw [bad_dpair i p hi (by omega) (fun h => by simp only [beq_iff_eq] at e2; unfold ltD at h; omega)]
        repeat (first
          | (refine Tri.seq fun K hK => ?_)
          | (refine Tri.region ?_; simp [upd, hn, s1, x1, s6, hi, hi0, hws, c1, c2, c3, hw1, hwp, hpl, e1, e2, e3])
          | (refine Tri.draw (by kernel_rfl) (by decide +kernel) ?_; simp [upd, hn, s1, x1, s6, hi, hi0, hws, c1, c2, c3, hw1, hwp, hpl, e1, e2, e3])
          | (refine Tri.cond_true ?_ ?_; (focus simp [upd, hn, s1, x1, s6, hi, hi0, hws, c1, c2, c3, hw1, hwp, hpl, e1, e2, e3]; done))
          | (refine Tri.cond_false ?_ ?_; (focus simp [upd, hn, s1, x1, s6, hi, hi0, hws, c1, c2, c3, hw1, hwp, hpl, e1, e2, e3]; done))
          | (refine Tri.skip ?_; simp only [thenS, blockS])
          | (refine Tri.block_seq ?_)
          | (refine Tri.block_region ?_)
          | (refine Tri.block_cond ?_)
          | ((with_reducible refine CallK.pure (j1) (Wks.refl _) ?_); simp [upd, hn, s1, x1, s6, hi, hi0, hws, c1, c2, c3, hw1, hwp, hpl, e1, e2, e3])
          | ((with_reducible refine CallK.pure (j2) (Wks.refl _) ?_); simp [upd, hn, s1, x1, s6, hi, hi0, hws, c1, c2, c3, hw1, hwp, hpl, e1, e2, e3])
          | ((with_reducible refine CallK.pure (j3) (Wks.refl _) ?_); simp [upd, hn, s1, x1, s6, hi, hi0, hws, c1, c2, c3, hw1, hwp, hpl, e1, e2, e3])
          | (refine Tri.exit ?_; simp [upd, hn, s1, x1, s6, hi, hi0, hws, c1, c2, c3, hw1, hwp, hpl, e1, e2, e3]; first | (rename ∀ st, Tri _ _ _ st _ → _ => hK; first | (apply hK; clear hK) | (clear hK; rename ∀ st, Tri _ _ _ st _ → _ => hK; first | (apply hK; clear hK) | (clear hK; rename ∀ st, Tri _ _ _ st _ → _ => hK; first | (apply hK; clear hK) | (clear hK; rename ∀ st, Tri _ _ _ st _ → _ => hK; first | (apply hK; clear hK) | (clear hK; rename ∀ st, Tri _ _ _ st _ → _ => hK; first | (apply hK; clear hK) | (clear hK; rename ∀ st, Tri _ _ _ st _ → _ => hK; apply hK; clear hK)))))) | skip)
          | (intro β)
          | (rename ∀ st, Tri _ _ _ st _ → _ => hK; apply hK; clear hK))
        refine Tri.ret ⟨_, rfl, ?_⟩
        simp [upd]
        exact Wk.refl _
      have hl : ltD r.dels[p] r.dels[i] := by
        simp only [beq_iff_eq] at e2
        right; omega
      repeat (first
        | (refine Tri.seq fun K hK => ?_)
        | (refine Tri.region ?_; simp [upd, hn, s1, x1, s6, hi, hi0, hws, c1, c2, c3, hw1, hwp, hpl, e1, e2, e3])
        | (refine Tri.draw (by kernel_rfl) (by decide +kernel) ?_; simp [upd, hn, s1, x1, s6, hi, hi0, hws, c1, c2, c3, hw1, hwp, hpl, e1, e2, e3])
        | (refine Tri.cond_true ?_ ?_; (focus simp [upd, hn, s1, x1, s6, hi, hi0, hws, c1, c2, c3, hw1, hwp, hpl, e1, e2, e3]; done))
        | (refine Tri.cond_false ?_ ?_; (focus simp [upd, hn, s1, x1, s6, hi, hi0, hws, c1, c2, c3, hw1, hwp, hpl, e1, e2, e3]; done))
        | (refine Tri.skip ?_; simp only [thenS, blockS])
        | (refine Tri.block_seq ?_)
        | (refine Tri.block_region ?_)
        | (refine Tri.block_cond ?_)
        | ((with_reducible refine CallK.pure (j1) (Wks.refl _) ?_); simp [upd, hn, s1, x1, s6, hi, hi0, hws, c1, c2, c3, hw1, hwp, hpl, e1, e2, e3])
        | ((with_reducible refine CallK.pure (j2) (Wks.refl _) ?_); simp [upd, hn, s1, x1, s6, hi, hi0, hws, c1, c2, c3, hw1, hwp, hpl, e1, e2, e3])
        | ((with_reducible refine CallK.pure (j3) (Wks.refl _) ?_); simp [upd, hn, s1, x1, s6, hi, hi0, hws, c1, c2, c3, hw1, hwp, hpl, e1, e2, e3])
        | (refine Tri.exit ?_; simp [upd, hn, s1, x1, s6, hi, hi0, hws, c1, c2, c3, hw1, hwp, hpl, e1, e2, e3]; first | (rename ∀ st, Tri _ _ _ st _ → _ => hK; first | (apply hK; clear hK) | (clear hK; rename ∀ st, Tri _ _ _ st _ → _ => hK; first | (apply hK; clear hK) | (clear hK; rename ∀ st, Tri _ _ _ st _ → _ => hK; first | (apply hK; clear hK) | (clear hK; rename ∀ st, Tri _ _ _ st _ → _ => hK; first | (apply hK; clear hK) | (clear hK; rename ∀ st, Tri _ _ _ st _ → _ => hK; first | (apply hK; clear hK) | (clear hK; rename ∀ st, Tri _ _ _ st _ → _ => hK; apply hK; clear hK)))))) | skip)
        | (intro β)
        | (rename ∀ st, Tri _ _ _ st _ → _ => hK; apply hK; clear hK))
      exact ⟨m - 1, by omega, b1, i + 1, ⟨rfl, by simp [upd, s1], by simpa using x1⟩, by omega, by simp [upd], hP.succ hi hok fun k hk hki => by
        rcases Nat.lt_or_eq_of_le (show k ≤ p by omega) with h' | rfl
        · exact ltD_trans (hP.2 k p hk hpl h' (by omega)) hl
        · exact hl⟩
  clear hK
  refine Tri.block (Tri.loop (KInv1 r) r.atts.length ?_ ?_)
  · exact ⟨_, 0, ⟨rfl, by simp [upd] <;> exact rfl, by simp [upd] <;> exact rfl⟩, rfl, by simp [upd], ⟨fun k _ h => by omega, fun k l _ _ _ h => by omega⟩⟩
  · rintro m st ⟨b1, i, ⟨hn, s1, x1⟩, hm, s3, hP⟩
    by_cases hi : i < r.atts.length
    case neg =>
      have : i = r.atts.length := by omega
      subst this
      repeat (first
        | (refine Tri.seq fun K hK => ?_)
        | (refine Tri.region ?_; simp [upd, hn, s1, x1, s3])
        | (refine Tri.draw (by kernel_rfl) (by decide +kernel) ?_; simp [upd, hn, s1, x1, s3])
        | (refine Tri.cond_true ?_ ?_; (focus simp [upd, hn, s1, x1, s3]; done))
        | (refine Tri.cond_false ?_ ?_; (focus simp [upd, hn, s1, x1, s3]; done))
        | (refine Tri.skip ?_; simp only [thenS, blockS])
        | (refine Tri.block_seq ?_)
        | (refine Tri.block_region ?_)
        | (refine Tri.block_cond ?_)
        | (refine Tri.exit ?_; simp [upd, hn, s1, x1, s3]; first | (rename ∀ st, Tri _ _ _ st _ → _ => hK; first | (apply hK; clear hK) | (clear hK; rename ∀ st, Tri _ _ _ st _ → _ => hK; first | (apply hK; clear hK) | (clear hK; rename ∀ st, Tri _ _ _ st _ → _ => hK; first | (apply hK; clear hK) | (clear hK; rename ∀ st, Tri _ _ _ st _ → _ => hK; first | (apply hK; clear hK) | (clear hK; rename ∀ st, Tri _ _ _ st _ → _ => hK; first | (apply hK; clear hK) | (clear hK; rename ∀ st, Tri _ _ _ st _ → _ => hK; apply hK; clear hK)))))) | skip)
        | (intro β)
        | (rename ∀ st, Tri _ _ _ st _ → _ => hK; apply hK; clear hK))
      apply fin
      exact ⟨b1, ⟨rfl, by simp [upd, s1], by simpa using x1⟩, hP⟩
    have l49 := attR_does r r.atts[i] hs.1 (by omega)
    simp only [recC] at l49
    have hw1 : IntKind.i64.wrap ((i : Int) + 1) = (i : Int) + 1 := wrap_i64 (by omega) (by omega)
    have hwm : IntKind.i64.wrap ((i : Int) - 1) = (i : Int) - 1 := wrap_i64 (by omega) (by omega)
    cases c1 : attOk r.atts[i] r.slots
    case false =>
      rw [bad_att i hi c1]
      repeat (first
        | (refine Tri.seq fun K hK => ?_)
        | (refine Tri.region ?_; simp [upd, hn, s1, x1, s3, hi, c1])
        | (refine Tri.draw (by kernel_rfl) (by decide +kernel) ?_; simp [upd, hn, s1, x1, s3, hi, c1])
        | (refine Tri.cond_true ?_ ?_; (focus simp [upd, hn, s1, x1, s3, hi, c1]; done))
        | (refine Tri.cond_false ?_ ?_; (focus simp [upd, hn, s1, x1, s3, hi, c1]; done))
        | (refine Tri.skip ?_; simp only [thenS, blockS])
        | (refine Tri.block_seq ?_)
        | (refine Tri.block_region ?_)
        | (refine Tri.block_cond ?_)
        | ((with_reducible refine CallK.pure (l49) (Wks.refl _) ?_); simp [upd, hn, s1, x1, s3, hi, c1])
        | (refine Tri.exit ?_; simp [upd, hn, s1, x1, s3, hi, c1]; first | (rename ∀ st, Tri _ _ _ st _ → _ => hK; first | (apply hK; clear hK) | (clear hK; rename ∀ st, Tri _ _ _ st _ → _ => hK; first | (apply hK; clear hK) | (clear hK; rename ∀ st, Tri _ _ _ st _ → _ => hK; first | (apply hK; clear hK) | (clear hK; rename ∀ st, Tri _ _ _ st _ → _ => hK; first | (apply hK; clear hK) | (clear hK; rename ∀ st, Tri _ _ _ st _ → _ => hK; first | (apply hK; clear hK) | (clear hK; rename ∀ st, Tri _ _ _ st _ → _ => hK; apply hK; clear hK)))))) | skip)
        | (intro β)
        | (rename ∀ st, Tri _ _ _ st _ → _ => hK; apply hK; clear hK))
      refine Tri.ret ⟨_, rfl, ?_⟩
      simp [upd]
      exact Wk.refl _
    by_cases hi0 : 0 < i
    case neg =>
      have hlt : ∀ k (_ : k < r.atts.length), k < i → ltA r.atts[k] r.atts[i] := fun k _ h => by omega
      repeat (first
        | (refine Tri.seq fun K hK => ?_)
        | (refine Tri.region ?_; simp [upd, hn, s1, x1, s3, hi, hi0, c1, hwm])
        | (refine Tri.draw (by kernel_rfl) (by decide +kernel) ?_; simp [upd, hn, s1, x1, s3, hi, hi0, c1, hwm])
        | (refine Tri.cond_true ?_ ?_; (focus simp [upd, hn, s1, x1, s3, hi, hi0, c1, hwm]; done))
        | (refine Tri.cond_false ?_ ?_; (focus simp [upd, hn, s1, x1, s3, hi, hi0, c1, hwm]; done))
        | (refine Tri.skip ?_; simp only [thenS, blockS])
        | (refine Tri.block_seq ?_)
        | (refine Tri.block_region ?_)
        | (refine Tri.block_cond ?_)
        | ((with_reducible refine CallK.pure (l49) (Wks.refl _) ?_); simp [upd, hn, s1, x1, s3, hi, hi0, c1, hwm])
        | (refine Tri.exit ?_; simp [upd, hn, s1, x1, s3, hi, hi0, c1, hwm]; first | (rename ∀ st, Tri _ _ _ st _ → _ => hK; first | (apply hK; clear hK) | (clear hK; rename ∀ st, Tri _ _ _ st _ → _ => hK; first | (apply hK; clear hK) | (clear hK; rename ∀ st, Tri _ _ _ st _ → _ => hK; first | (apply hK; clear hK) | (clear hK; rename ∀ st, Tri _ _ _ st _ → _ => hK; first | (apply hK; clear hK) | (clear hK; rename ∀ st, Tri _ _ _ st _ → _ => hK; first | (apply hK; clear hK) | (clear hK; rename ∀ st, Tri _ _ _ st _ → _ => hK; apply hK; clear hK)))))) | skip)
        | (intro β)
        | (rename ∀ st, Tri _ _ _ st _ → _ => hK; apply hK; clear hK))
      rename ∀ st, Tri _ _ _ st _ → _ => hK
      have fin2 := fun (st : St) (h : KEnd2 r i r.atts[i] st) => hK st ?tail
      case tail =>
        clear s3 s1 x1 hn hK
        obtain ⟨b1, ⟨hn, s1, x1⟩, s3, hno⟩ := h
        repeat (first
          | (refine Tri.seq fun K hK => ?_)
          | (refine Tri.region ?_; simp [upd, hn, s1, x1, s3, hw1])
          | (refine Tri.draw (by kernel_rfl) (by decide +kernel) ?_; simp [upd, hn, s1, x1, s3, hw1])
          | (refine Tri.cond_true ?_ ?_; (focus simp [upd, hn, s1, x1, s3, hw1]; done))
          | (refine Tri.cond_false ?_ ?_; (focus simp [upd, hn, s1, x1, s3, hw1]; done))
          | (refine Tri.skip ?_; simp only [thenS, blockS])
          | (refine Tri.block_seq ?_)
          | (refine Tri.block_region ?_)
          | (refine Tri.block_cond ?_)
          | (refine Tri.exit ?_; simp [upd, hn, s1, x1, s3, hw1]; first | (rename ∀ st, Tri _ _ _ st _ → _ => hK; first | (apply hK; clear hK) | (clear hK; rename ∀ st, Tri _ _ _ st _ → _ => hK; first | (apply hK; clear hK) | (clear hK; rename ∀ st, Tri _ _ _ st _ → _ => hK; first | (apply hK; clear hK) | (clear hK; rename ∀ st, Tri _ _ _ st _ → _ => hK; first | (apply hK; clear hK) | (clear hK; rename ∀ st, Tri _ _ _ st _ → _ => hK; first | (apply hK; clear hK) | (clear hK; rename ∀ st, Tri _ _ _ st _ → _ => hK; apply hK; clear hK)))))) | skip)
          | (intro β)
          | (rename ∀ st, Tri _ _ _ st _ → _ => hK; apply hK; clear hK))
        exact ⟨m - 1, by omega, b1, i + 1, ⟨rfl, by simp [upd, s1], by simpa using x1⟩, by omega, by simp [upd], hP.succ hi c1 fun k hk hki => ⟨hlt k hk hki, hno k hk hki⟩⟩
      clear hK
      refine Tri.block (Tri.loop (KInv2 r i β r.atts[i]) i ?_ ?_)
      · exact ⟨b1, (i : Int) - 1, ⟨rfl, by simp [upd, s1], by simp [x1]⟩, by simp [upd], by simp, by simp [upd, s3], by simp [upd, hwm] <;> omega, by omega, by omega, fun k hk h1 h2 => by omega⟩
      · clear hn s1 x1 s3
        rintro m2 st ⟨b1, j, ⟨hn, s1, x1⟩, s4, x4, s3, s5, hmj, hji, hno⟩
        by_cases hj0 : 0 ≤ j
        case neg =>
          repeat (first
            | (refine Tri.seq fun K hK => ?_)
            | (refine Tri.region ?_; simp [upd, hn, s1, x1, s4, x4, s3, s5, hj0])
            | (refine Tri.draw (by kernel_rfl) (by decide +kernel) ?_; simp [upd, hn, s1, x1, s4, x4, s3, s5, hj0])
            | (refine Tri.cond_true ?_ ?_; (focus simp [upd, hn, s1, x1, s4, x4, s3, s5, hj0]; done))
            | (refine Tri.cond_false ?_ ?_; (focus simp [upd, hn, s1, x1, s4, x4, s3, s5, hj0]; done))
            | (refine Tri.skip ?_; simp only [thenS, blockS])
            | (refine Tri.block_seq ?_)
            | (refine Tri.block_region ?_)
            | (refine Tri.block_cond ?_)
            | (refine Tri.exit ?_; simp [upd, hn, s1, x1, s4, x4, s3, s5, hj0]; first | (rename ∀ st, Tri _ _ _ st _ → _ => hK; first | (apply hK; clear hK) | (clear hK; rename ∀ st, Tri _ _ _ st _ → _ => hK; first | (apply hK; clear hK) | (clear hK; rename ∀ st, Tri _ _ _ st _ → _ => hK; first | (apply hK; clear hK) | (clear hK; rename ∀ st, Tri _ _ _ st _ → _ => hK; first | (apply hK; clear hK) | (clear hK; rename ∀ st, Tri _ _ _ st _ → _ => hK; first | (apply hK; clear hK) | (clear hK; rename ∀ st, Tri _ _ _ st _ → _ => hK; apply hK; clear hK)))))) | skip)
            | (intro β)
            | (rename ∀ st, Tri _ _ _ st _ → _ => hK; apply hK; clear hK))
          apply fin2
          exact ⟨b1, ⟨rfl, by simp [upd, s1], by simpa using x1⟩, by simp [upd, s3], fun k hk hki h => hno k hk (by omega) hki h.2⟩
        obtain ⟨j, rfl⟩ := Int.eq_ofNat_of_zero_le hj0
        have hjl : j < r.atts.length := by omega
        have hnw : IntKind.i64.wrap ((j : Int) - 1) = (j : Int) - 1 := wrap_i64 (by omega) (by omega)
        cases c3 : (r.atts[j].slot == r.atts[i].slot)
        case false =>
          repeat (first
            | (refine Tri.seq fun K hK => ?_)
            | (refine Tri.region ?_; simp [upd, hn, s1, x1, s4, x4, s3, s5, hj0, hjl, c3])
            | (refine Tri.draw (by kernel_rfl) (by decide +kernel) ?_; simp [upd, hn, s1, x1, s4, x4, s3, s5, hj0, hjl, c3])
            | (refine Tri.cond_true ?_ ?_; (focus simp [upd, hn, s1, x1, s4, x4, s3, s5, hj0, hjl, c3]; done))
            | (refine Tri.cond_false ?_ ?_; (focus simp [upd, hn, s1, x1, s4, x4, s3, s5, hj0, hjl, c3]; done))
            | (refine Tri.skip ?_; simp only [thenS, blockS])
            | (refine Tri.block_seq ?_)
            | (refine Tri.block_region ?_)
            | (refine Tri.block_cond ?_)
            | (refine Tri.exit ?_; simp [upd, hn, s1, x1, s4, x4, s3, s5, hj0, hjl, c3]; first | (rename ∀ st, Tri _ _ _ st _ → _ => hK; first | (apply hK; clear hK) | (clear hK; rename ∀ st, Tri _ _ _ st _ → _ => hK; first | (apply hK; clear hK) | (clear hK; rename ∀ st, Tri _ _ _ st _ → _ => hK; first | (apply hK; clear hK) | (clear hK; rename ∀ st, Tri _ _ _ st _ → _ => hK; first | (apply hK; clear hK) | (clear hK; rename ∀ st, Tri _ _ _ st _ → _ => hK; first | (apply hK; clear hK) | (clear hK; rename ∀ st, Tri _ _ _ st _ → _ => hK; apply hK; clear hK)))))) | skip)
            | (intro β)
            | (rename ∀ st, Tri _ _ _ st _ → _ => hK; apply hK; clear hK))
          apply fin2
          refine ⟨b1, ⟨rfl, by simp [upd, s1], by simpa using x1⟩, by simp [upd, s3], fun k hk hki h => ?_⟩
          rcases Nat.lt_or_ge j k with h' | h'
          · exact hno k hk (by omega) hki h.2
          · have h1 : r.atts[j].slot ≤ r.atts[i].slot := ltA_slot (hlt j hjl (by omega))
            have h2 : r.atts[k].slot ≤ r.atts[j].slot := by
              rcases Nat.lt_or_eq_of_le h' with h'' | rfl
              · exact ltA_slot (hP.2 k j hk hjl h'' (by omega)).1
              · exact Int.le_refl _
            simp only [beq_eq_false_iff_ne, ne_eq] at c3
            omega
        cases c4 : (r.atts[j].frm == r.atts[i].frm)
        case true =>
          rw [bad_pair i j hi (by omega) (fun h => h.2 ⟨by simpa using c3, by simpa using c4⟩)]
          repeat (first
            | (refine Tri.seq fun K hK => ?_)
            | (refine Tri.region ?_; simp [upd, hn, s1, x1, s4, x4, s3, s5, hj0, hjl, c3, c4])
            | (refine Tri.draw (by kernel_rfl) (by decide +kernel) ?_; simp [upd, hn, s1, x1, s4, x4, s3, s5, hj0, hjl, c3, c4])
            | (refine Tri.cond_true ?_ ?_; (focus simp [upd, hn, s1, x1, s4, x4, s3, s5, hj0, hjl, c3, c4]; done))
            | (refine Tri.cond_false ?_ ?_; (focus simp [upd, hn, s1, x1, s4, x4, s3, s5, hj0, hjl, c3, c4]; done))
            | (refine Tri.skip ?_; simp only [thenS, blockS])
            | (refine Tri.block_seq ?_)
            | (refine Tri.block_region ?_)
            | (refine Tri.block_cond ?_)
            | (refine Tri.exit ?_; simp [upd, hn, s1, x1, s4, x4, s3, s5, hj0, hjl, c3, c4]; first | (rename ∀ st, Tri _ _ _ st _ → _ => hK; first | (apply hK; clear hK) | (clear hK; rename ∀ st, Tri _ _ _ st _ → _ => hK; first | (apply hK; clear hK) | (clear hK; rename ∀ st, Tri _ _ _ st _ → _ => hK; first | (apply hK; clear hK) | (clear hK; rename ∀ st, Tri _ _ _ st _ → _ => hK; first | (apply hK; clear hK) | (clear hK; rename ∀ st, Tri _ _ _ st _ → _ => hK; first | (apply hK; clear hK) | (clear hK; rename ∀ st, Tri _ _ _ st _ → _ => hK; apply hK; clear hK)))))) | skip)
            | (intro β)
            | (rename ∀ st, Tri _ _ _ st _ → _ => hK; apply hK; clear hK))
          refine Tri.ret ⟨_, rfl, ?_⟩
          simp [upd]
          exact Wk.refl _
        repeat (first
          | (refine Tri.seq fun K hK => ?_)
          | (refine Tri.region ?_; simp [upd, hn, s1, x1, s4, x4, s3, s5, hj0, hjl, c3, c4, hnw])
          | (refine Tri.draw (by kernel_rfl) (by decide +kernel) ?_; simp [upd, hn, s1, x1, s4, x4, s3, s5, hj0, hjl, c3, c4, hnw])
          | (refine Tri.cond_true ?_ ?_; (focus simp [upd, hn, s1, x1, s4, x4, s3, s5, hj0, hjl, c3, c4, hnw]; done))
          | (refine Tri.cond_false ?_ ?_; (focus simp [upd, hn, s1, x1, s4, x4, s3, s5, hj0, hjl, c3, c4, hnw]; done))
          | (refine Tri.skip ?_; simp only [thenS, blockS])
          | (refine Tri.block_seq ?_)
          | (refine Tri.block_region ?_)
          | (refine Tri.block_cond ?_)
          | (refine Tri.exit ?_; simp [upd, hn, s1, x1, s4, x4, s3, s5, hj0, hjl, c3, c4, hnw]; first | (rename ∀ st, Tri _ _ _ st _ → _ => hK; first | (apply hK; clear hK) | (clear hK; rename ∀ st, Tri _ _ _ st _ → _ => hK; first | (apply hK; clear hK) | (clear hK; rename ∀ st, Tri _ _ _ st _ → _ => hK; first | (apply hK; clear hK) | (clear hK; rename ∀ st, Tri _ _ _ st _ → _ => hK; first | (apply hK; clear hK) | (clear hK; rename ∀ st, Tri _ _ _ st _ → _ => hK; first | (apply hK; clear hK) | (clear hK; rename ∀ st, Tri _ _ _ st _ → _ => hK; apply hK; clear hK)))))) | skip)
          | (intro β)
          | (rename ∀ st, Tri _ _ _ st _ → _ => hK; apply hK; clear hK))
        refine ⟨m2 - 1, by omega, b1, (j : Int) - 1, ⟨rfl, by simp [upd, s1], by simpa using x1⟩, by simp [upd, s4], by simpa using x4, by simp [upd, s3], by simp [upd], by omega, by omega, fun k hk h1 h2 => ?_⟩
        by_cases hkj : k = j
        · subst hkj; simpa using c4
        · exact hno k hk (by omega) h2
    obtain ⟨p, hp⟩ : ∃ p, p = i - 1 := ⟨i - 1, rfl⟩
    have hpl : p < r.atts.length := by omega
    have hwp : IntKind.i64.wrap ((i : Int) - 1) = (p : Int) := by rw [hwm]; omega
    have l50 := less_does r.atts[p] r.atts[i]
    cases c2 : decide (cmpA r.atts[p] r.atts[i] < 0)
    case false =>
      rw [bad_pair i p hi (by omega) (fun h => by have := (cmpA_lt _ _).2 h.1; simp at c2; omega)]
      rw [c2] at l50
      repeat (first
        | (refine Tri.seq fun K hK => ?_)
        | (refine Tri.region ?_; simp [upd, hn, s1, x1, s3, hi, hi0, c1, hwp, hpl])
        | (refine Tri.draw (by kernel_rfl) (by decide +kernel) ?_; simp [upd, hn, s1, x1, s3, hi, hi0, c1, hwp, hpl])
        | (refine Tri.cond_true ?_ ?_; (focus simp [upd, hn, s1, x1, s3, hi, hi0, c1, hwp, hpl]; done))
        | (refine Tri.cond_false ?_ ?_; (focus simp [upd, hn, s1, x1, s3, hi, hi0, c1, hwp, hpl]; done))
        | (refine Tri.skip ?_; simp only [thenS, blockS])
        | (refine Tri.block_seq ?_)
        | (refine Tri.block_region ?_)
        | (refine Tri.block_cond ?_)
        | ((with_reducible refine CallK.pure (l49) (Wks.refl _) ?_); simp [upd, hn, s1, x1, s3, hi, hi0, c1, hwp, hpl])
        | ((with_reducible refine CallK.pure (l50) (Wks.refl _) ?_); simp [upd, hn, s1, x1, s3, hi, hi0, c1, hwp, hpl])
        | (refine Tri.exit ?_; simp [upd, hn, s1, x1, s3, hi, hi0, c1, hwp, hpl]; first | (rename ∀ st, Tri _ _ _ st _ → _ => hK; first | (apply hK; clear hK) | (clear hK; rename ∀ st, Tri _ _ _ st _ → _ => hK; first | (apply hK; clear hK) | (clear hK; rename ∀ st, Tri _ _ _ st _ → _ => hK; first | (apply hK; clear hK) | (clear hK; rename ∀ st, Tri _ _ _ st _ → _ => hK; first | (apply hK; clear hK) | (clear hK; rename ∀ st, Tri _ _ _ st _ → _ => hK; first | (apply hK; clear hK) | (clear hK; rename ∀ st, Tri _ _ _ st _ → _ => hK; apply hK; clear hK)))))) | skip)
        | (intro β)
        | (rename ∀ st, Tri _ _ _ st _ → _ => hK; apply hK; clear hK))
      refine Tri.ret ⟨_, rfl, ?_⟩
      simp [upd]
      exact Wk.refl _
    have hlt : ∀ k (_ : k < r.atts.length), k < i → ltA r.atts[k] r.atts[i] := by
      have hip : i = p + 1 := by omega
      subst hip
      exact hP.ltA hi (by simpa using c2)
    rw [c2] at l50
    repeat (first
      | (refine Tri.seq fun K hK => ?_)
      | (refine Tri.region ?_; simp [upd, hn, s1, x1, s3, hi, hi0, c1, hwp, hpl])
      | (refine Tri.draw (by kernel_rfl) (by decide +kernel) ?_; simp [upd, hn, s1, x1, s3, hi, hi0, c1, hwp, hpl])
      | (refine Tri.cond_true ?_ ?_; (focus simp [upd, hn, s1, x1, s3, hi, hi0, c1, hwp, hpl]; done))
      | (refine Tri.cond_false ?_ ?_; (focus simp [upd, hn, s1, x1, s3, hi, hi0, c1, hwp, hpl]; done))
      | (refine Tri.skip ?_; simp only [thenS, blockS])
      | (refine Tri.block_seq ?_)
      | (refine Tri.block_region ?_)
      | (refine Tri.block_cond ?_)
      | ((with_reducible refine CallK.pure (l49) (Wks.refl _) ?_); simp [upd, hn, s1, x1, s3, hi, hi0, c1, hwp, hpl])
      | ((with_reducible refine CallK.pure (l50) (Wks.refl _) ?_); simp [upd, hn, s1, x1, s3, hi, hi0, c1, hwp, hpl])
      | (refine Tri.exit ?_; simp [upd, hn, s1, x1, s3, hi, hi0, c1, hwp, hpl]; first | (rename ∀ st, Tri _ _ _ st _ → _ => hK; first | (apply hK; clear hK) | (clear hK; rename ∀ st, Tri _ _ _ st _ → _ => hK; first | (apply hK; clear hK) | (clear hK; rename ∀ st, Tri _ _ _ st _ → _ => hK; first | (apply hK; clear hK) | (clear hK; rename ∀ st, Tri _ _ _ st _ → _ => hK; first | (apply hK; clear hK) | (clear hK; rename ∀ st, Tri _ _ _ st _ → _ => hK; first | (apply hK; clear hK) | (clear hK; rename ∀ st, Tri _ _ _ st _ → _ => hK; apply hK; clear hK)))))) | skip)
      | (intro β)
      | (rename ∀ st, Tri _ _ _ st _ → _ => hK; apply hK; clear hK))
    rename ∀ st, Tri _ _ _ st _ → _ => hK
    have fin2 := fun (st : St) (h : KEnd2 r i r.atts[i] st) => hK st ?tail
    case tail =>
      clear s3 s1 x1 hn hK
      obtain ⟨b1, ⟨hn, s1, x1⟩, s3, hno⟩ := h
      repeat (first
        | (refine Tri.seq fun K hK => ?_)
        | (refine Tri.region ?_; simp [upd, hn, s1, x1, s3, hw1])
        | (refine Tri.draw (by kernel_rfl) (by decide +kernel) ?_; simp [upd, hn, s1, x1, s3, hw1])
        | (refine Tri.cond_true ?_ ?_; (focus simp [upd, hn, s1, x1, s3, hw1]; done))
        | (refine Tri.cond_false ?_ ?_; (focus simp [upd, hn, s1, x1, s3, hw1]; done))
        | (refine Tri.skip ?_; simp only [thenS, blockS])
        | (refine Tri.block_seq ?_)
        | (refine Tri.block_region ?_)
        | (refine Tri.block_cond ?_)
        | (refine Tri.exit ?_; simp [upd, hn, s1, x1, s3, hw1]; first | (rename ∀ st, Tri _ _ _ st _ → _ => hK; first | (apply hK; clear hK) | (clear hK; rename ∀ st, Tri _ _ _ st _ → _ => hK; first | (apply hK; clear hK) | (clear hK; rename ∀ st, Tri _ _ _ st _ → _ => hK; first | (apply hK; clear hK) | (clear hK; rename ∀ st, Tri _ _ _ st _ → _ => hK; first | (apply hK; clear hK) | (clear hK; rename ∀ st, Tri _ _ _ st _ → _ => hK; first | (apply hK; clear hK) | (clear hK; rename ∀ st, Tri _ _ _ st _ → _ => hK; apply hK; clear hK)))))) | skip)
        | (intro β)
        | (rename ∀ st, Tri _ _ _ st _ → _ => hK; apply hK; clear hK))
      exact ⟨m - 1, by omega, b1, i + 1, ⟨rfl, by simp [upd, s1], by simpa using x1⟩, by omega, by simp [upd], hP.succ hi c1 fun k hk hki => ⟨hlt k hk hki, hno k hk hki⟩⟩
    clear hK
    refine Tri.block (Tri.loop (KInv2 r i β r.atts[i]) i ?_ ?_)
    · exact ⟨b1, (i : Int) - 1, ⟨rfl, by simp [upd, s1], by simp [x1]⟩, by simp [upd], by simp, by simp [upd, s3], by simp [upd, hwp] <;> omega, by omega, by omega, fun k hk h1 h2 => by omega⟩
    · clear hn s1 x1 s3
      rintro m2 st ⟨b1, j, ⟨hn, s1, x1⟩, s4, x4, s3, s5, hmj, hji, hno⟩
      by_cases hj0 : 0 ≤ j
      case neg =>
        repeat (first
          | (refine Tri.seq fun K hK => ?_)
          | (refine Tri.region ?_; simp [upd, hn, s1, x1, s4, x4, s3, s5, hj0])
          | (refine Tri.draw (by kernel_rfl) (by decide +kernel) ?_; simp [upd, hn, s1, x1, s4, x4, s3, s5, hj0])
          | (refine Tri.cond_true ?_ ?_; (focus simp [upd, hn, s1, x1, s4, x4, s3, s5, hj0]; done))
          | (refine Tri.cond_false ?_ ?_; (focus simp [upd, hn, s1, x1, s4, x4, s3, s5, hj0]; done))
          | (refine Tri.skip ?_; simp only [thenS, blockS])
          | (refine Tri.block_seq ?_)
          | (refine Tri.block_region ?_)
          | (refine Tri.block_cond ?_)
          | (refine Tri.exit ?_; simp [upd, hn, s1, x1, s4, x4, s3, s5, hj0]; first | (rename ∀ st, Tri _ _ _ st _ → _ => hK; first | (apply hK; clear hK) | (clear hK; rename ∀ st, Tri _ _ _ st _ → _ => hK; first | (apply hK; clear hK) | (clear hK; rename ∀ st, Tri _ _ _ st _ → _ => hK; first | (apply hK; clear hK) | (clear hK; rename ∀ st, Tri _ _ _ st _ → _ => hK; first | (apply hK; clear hK) | (clear hK; rename ∀ st, Tri _ _ _ st _ → _ => hK; first | (apply hK; clear hK) | (clear hK; rename ∀ st, Tri _ _ _ st _ → _ => hK; apply hK; clear hK)))))) | skip)
          | (intro β)
          | (rename ∀ st, Tri _ _ _ st _ → _ => hK; apply hK; clear hK))
        apply fin2
        exact ⟨b1, ⟨rfl, by simp [upd, s1], by simpa using x1⟩, by simp [upd, s3], fun k hk hki h => hno k hk (by omega) hki h.2⟩
      obtain ⟨j, rfl⟩ := Int.eq_ofNat_of_zero_le hj0
      have hjl : j < r.atts.length := by omega
      have hnw : IntKind.i64.wrap ((j : Int) - 1) = (j : Int) - 1 := wrap_i64 (by omega) (by omega)
      cases c3 : (r.atts[j].slot == r.atts[i].slot)
      case false =>
        repeat (first
          | (refine Tri.seq fun K hK => ?_)
          | (refine Tri.region ?_; simp [upd, hn, s1, x1, s4, x4, s3, s5, hj0, hjl, c3])
          | (refine Tri.draw (by kernel_rfl) (by decide +kernel) ?_; simp [upd, hn, s1, x1, s4, x4, s3, s5, hj0, hjl, c3])
          | (refine Tri.cond_true ?_ ?_; (focus simp [upd, hn, s1, x1, s4, x4, s3, s5, hj0, hjl, c3]; done))
          | (refine Tri.cond_false ?_ ?_; (focus simp [upd, hn, s1, x1, s4, x4, s3, s5, hj0, hjl, c3]; done))
          | (refine Tri.skip ?_; simp only [thenS, blockS])
          | (refine Tri.block_seq ?_)
          | (refine Tri.block_region ?_)
          | (refine Tri.block_cond ?_)
          | (refine Tri.exit ?_; simp [upd, hn, s1, x1, s4, x4, s3, s5, hj0, hjl, c3]; first | (rename ∀ st, Tri _ _ _ st _ → _ => hK; first | (apply hK; clear hK) | (clear hK; rename ∀ st, Tri _ _ _ st _ → _ => hK; first | (apply hK; clear hK) | (clear hK; rename ∀ st, Tri _ _ _ st _ → _ => hK; first | (apply hK; clear hK) | (clear hK; rename ∀ st, Tri _ _ _ st _ → _ => hK; first | (apply hK; clear hK) | (clear hK; rename ∀ st, Tri _ _ _ st _ → _ => hK; first | (apply hK; clear hK) | (clear hK; rename ∀ st, Tri _ _ _ st _ → _ => hK; apply hK; clear hK)))))) | skip)
          | (intro β)
          | (rename ∀ st, Tri _ _ _ st _ → _ => hK; apply hK; clear hK))
        apply fin2
        refine ⟨b1, ⟨rfl, by simp [upd, s1], by simpa using x1⟩, by simp [upd, s3], fun k hk hki h => ?_⟩
        rcases Nat.lt_or_ge j k with h' | h'
        · exact hno k hk (by omega) hki h.2
        · have h1 : r.atts[j].slot ≤ r.atts[i].slot := ltA_slot (hlt j hjl (by omega))
          have h2 : r.atts[k].slot ≤ r.atts[j].slot := by
            rcases Nat.lt_or_eq_of_le h' with h'' | rfl
            · exact ltA_slot (hP.2 k j hk hjl h'' (by omega)).1
            · exact Int.le_refl _
          simp only [beq_eq_false_iff_ne, ne_eq] at c3
          omega
      cases c4 : (r.atts[j].frm == r.atts[i].frm)
      case true =>
        rw [bad_pair i j hi (by omega) (fun h => h.2 ⟨by simpa using c3, by simpa using c4⟩)]
        repeat (first
          | (refine Tri.seq fun K hK => ?_)
          | (refine Tri.region ?_; simp [upd, hn, s1, x1, s4, x4, s3, s5, hj0, hjl, c3, c4])
          | (refine Tri.draw (by kernel_rfl) (by decide +kernel) ?_; simp [upd, hn, s1, x1, s4, x4, s3, s5, hj0, hjl, c3, c4])
          | (refine Tri.cond_true ?_ ?_; (focus simp [upd, hn, s1, x1, s4, x4, s3, s5, hj0, hjl, c3, c4]; done))
          | (refine Tri.cond_false ?_ ?_; (focus simp [upd, hn, s1, x1, s4, x4, s3, s5, hj0, hjl, c3, c4]; done))
          | (refine Tri.skip ?_; simp only [thenS, blockS])
          | (refine Tri.block_seq ?_)
          | (refine Tri.block_region ?_)
          | (refine Tri.block_cond ?_)
          | (refine Tri.exit ?_; simp [upd, hn, s1, x1, s4, x4, s3, s5, hj0, hjl, c3, c4]; first | (rename ∀ st, Tri _ _ _ st _ → _ => hK; first | (apply hK; clear hK) | (clear hK; rename ∀ st, Tri _ _ _ st _ → _ => hK; first | (apply hK; clear hK) | (clear hK; rename ∀ st, Tri _ _ _ st _ → _ => hK; first | (apply hK; clear hK) | (clear hK; rename ∀ st, Tri _ _ _ st _ → _ => hK; first | (apply hK; clear hK) | (clear hK; rename ∀ st, Tri _ _ _ st _ → _ => hK; first | (apply hK; clear hK) | (clear hK; rename ∀ st, Tri _ _ _ st _ → _ => hK; apply hK; clear hK)))))) | skip)
          | (intro β)
          | (rename ∀ st, Tri _ _ _ st _ → _ => hK; apply hK; clear hK))
        refine Tri.ret ⟨_, rfl, ?_⟩
        simp [upd]
        exact Wk.refl _
      repeat (first
        | (refine Tri.seq fun K hK => ?_)
        | (refine Tri.region ?_; simp [upd, hn, s1, x1, s4, x4, s3, s5, hj0, hjl, c3, c4, hnw])
        | (refine Tri.draw (by kernel_rfl) (by decide +kernel) ?_; simp [upd, hn, s1, x1, s4, x4, s3, s5, hj0, hjl, c3, c4, hnw])
        | (refine Tri.cond_true ?_ ?_; (focus simp [upd, hn, s1, x1, s4, x4, s3, s5, hj0, hjl, c3, c4, hnw]; done))
        | (refine Tri.cond_false ?_ ?_; (focus simp [upd, hn, s1, x1, s4, x4, s3, s5, hj0, hjl, c3, c4, hnw]; done))
        | (refine Tri.skip ?_; simp only [thenS, blockS])
        | (refine Tri.block_seq ?_)
        | (refine Tri.block_region ?_)
        | (refine Tri.block_cond ?_)
        | (refine Tri.exit ?_; simp [upd, hn, s1, x1, s4, x4, s3, s5, hj0, hjl, c3, c4, hnw]; first | (rename ∀ st, Tri _ _ _ st _ → _ => hK; first | (apply hK; clear hK) | (clear hK; rename ∀ st, Tri _ _ _ st _ → _ => hK; first | (apply hK; clear hK) | (clear hK; rename ∀ st, Tri _ _ _ st _ → _ => hK; first | (apply hK; clear hK) | (clear hK; rename ∀ st, Tri _ _ _ st _ → _ => hK; first | (apply hK; clear hK) | (clear hK; rename ∀ st, Tri _ _ _ st _ → _ => hK; first | (apply hK; clear hK) | (clear hK; rename ∀ st, Tri _ _ _ st _ → _ => hK; apply hK; clear hK)))))) | skip)
        | (intro β)
        | (rename ∀ st, Tri _ _ _ st _ → _ => hK; apply hK; clear hK))
      refine ⟨m2 - 1, by omega, b1, (j : Int) - 1, ⟨rfl, by simp [upd, s1], by simpa using x1⟩, by simp [upd, s4], by simpa using x4, by simp [upd, s3], by simp [upd], by omega, by omega, fun k hk h1 h2 => ?_⟩
      by_cases hkj : k = j
      · subst hkj; simpa using c4
      · exact hno k hk (by omega) h2
end Go.Proofs.Ytngbpmiikpjiaaa
end
section
open Go Go.Vm
namespace Go.Proofs.Ytngbpmiikpjiaaa
set_option maxRecDepth 100000
set_option maxHeartbeats 4000000
set_option linter.unusedSimpArgs false
attribute [-simp] isObj C.isO
attribute [local irreducible] Tri Does DoesB DoesR Rounds check fault flowsE arr slotsOf inB
theorem checkM_does (l : List Flo) (nl : Bool) (r : Rec) : Does Try.prog 46 [.c (.sl nl 6 none (l.map floC)), .agg (recC r)] (.c (.int .i64 (lateE l r))) := by
  refine Does.of_body Try.func46 rfl (by kernel_rfl) rfl rfl (by simp) ?_
  intro E
  have h1 := check71_does 32 l nl
  have h2 := checkR_does r
  unfold tup2 at h1
  rw [← (by unfold flowsE; rfl : flowsE l = (flowsCheck 32 l).2)] at h1
  unfold lateE
  simp only [recC] at h2 ⊢
  cases g1 : (flowsE l == 0)
  · rw [if_neg (by simp at g1; simp [g1])]
    repeat (first
      | (refine Tri.seq fun K hK => ?_)
      | (refine Tri.region ?_; simp [upd, g1, bne])
      | (refine Tri.draw (by kernel_rfl) (by decide +kernel) ?_; simp [upd, g1, bne])
      | (refine Tri.cond_true ?_ ?_; (focus simp [upd, g1, bne]; done))
      | (refine Tri.cond_false ?_ ?_; (focus simp [upd, g1, bne]; done))
      | (refine Tri.skip ?_; simp only [thenS, blockS])
      | (refine Tri.block_seq ?_)
      | (refine Tri.block_region ?_)
      | (refine Tri.block_cond ?_)
      | ((with_reducible refine CallK.pure (h1) (Wks.refl _) ?_); simp [upd, g1, bne])
      | ((with_reducible refine CallK.pure (h2) (Wks.refl _) ?_); simp [upd, g1, bne])
      | (refine Tri.exit ?_; simp [upd, g1, bne]; first | (rename ∀ st, Tri _ _ _ st _ → _ => hK; first | (apply hK; clear hK) | (clear hK; rename ∀ st, Tri _ _ _ st _ → _ => hK; first | (apply hK; clear hK) | (clear hK; rename ∀ st, Tri _ _ _ st _ → _ => hK; first | (apply hK; clear hK) | (clear hK; rename ∀ st, Tri _ _ _ st _ → _ => hK; first | (apply hK; clear hK) | (clear hK; rename ∀ st, Tri _ _ _ st _ → _ => hK; first | (apply hK; clear hK) | (clear hK; rename ∀ st, Tri _ _ _ st _ → _ => hK; apply hK; clear hK)))))) | skip)
      | (intro β)
      | (rename ∀ st, Tri _ _ _ st _ → _ => hK; apply hK; clear hK))
    refine Tri.ret ⟨_, rfl, ?_⟩
    simp [upd]
    exact Wk.refl _
  · cases g2 : (check r == 0)
    · rw [if_neg (by simp at g2; simp [g2])]
      repeat (first
        | (refine Tri.seq fun K hK => ?_)
        | (refine Tri.region ?_; simp [upd, g1, g2, bne])
        | (refine Tri.draw (by kernel_rfl) (by decide +kernel) ?_; simp [upd, g1, g2, bne])
        | (refine Tri.cond_true ?_ ?_; (focus simp [upd, g1, g2, bne]; done))
        | (refine Tri.cond_false ?_ ?_; (focus simp [upd, g1, g2, bne]; done))
        | (refine Tri.skip ?_; simp only [thenS, blockS])
        | (refine Tri.block_seq ?_)
        | (refine Tri.block_region ?_)
        | (refine Tri.block_cond ?_)
        | ((with_reducible refine CallK.pure (h1) (Wks.refl _) ?_); simp [upd, g1, g2, bne])
        | ((with_reducible refine CallK.pure (h2) (Wks.refl _) ?_); simp [upd, g1, g2, bne])
        | (refine Tri.exit ?_; simp [upd, g1, g2, bne]; first | (rename ∀ st, Tri _ _ _ st _ → _ => hK; first | (apply hK; clear hK) | (clear hK; rename ∀ st, Tri _ _ _ st _ → _ => hK; first | (apply hK; clear hK) | (clear hK; rename ∀ st, Tri _ _ _ st _ → _ => hK; first | (apply hK; clear hK) | (clear hK; rename ∀ st, Tri _ _ _ st _ → _ => hK; first | (apply hK; clear hK) | (clear hK; rename ∀ st, Tri _ _ _ st _ → _ => hK; first | (apply hK; clear hK) | (clear hK; rename ∀ st, Tri _ _ _ st _ → _ => hK; apply hK; clear hK)))))) | skip)
        | (intro β)
        | (rename ∀ st, Tri _ _ _ st _ → _ => hK; apply hK; clear hK))
      refine Tri.ret ⟨_, rfl, ?_⟩
      simp [upd]
      exact Wk.refl _
    · rw [if_pos ⟨by simpa using g1, by simpa using g2⟩]
      repeat (first
        | (refine Tri.seq fun K hK => ?_)
        | (refine Tri.region ?_; simp [upd, g1, g2, bne])
        | (refine Tri.draw (by kernel_rfl) (by decide +kernel) ?_; simp [upd, g1, g2, bne])
        | (refine Tri.cond_true ?_ ?_; (focus simp [upd, g1, g2, bne]; done))
        | (refine Tri.cond_false ?_ ?_; (focus simp [upd, g1, g2, bne]; done))
        | (refine Tri.skip ?_; simp only [thenS, blockS])
        | (refine Tri.block_seq ?_)
        | (refine Tri.block_region ?_)
        | (refine Tri.block_cond ?_)
        | ((with_reducible refine CallK.pure (h1) (Wks.refl _) ?_); simp [upd, g1, g2, bne])
        | ((with_reducible refine CallK.pure (h2) (Wks.refl _) ?_); simp [upd, g1, g2, bne])
        | (refine Tri.exit ?_; simp [upd, g1, g2, bne]; first | (rename ∀ st, Tri _ _ _ st _ → _ => hK; first | (apply hK; clear hK) | (clear hK; rename ∀ st, Tri _ _ _ st _ → _ => hK; first | (apply hK; clear hK) | (clear hK; rename ∀ st, Tri _ _ _ st _ → _ => hK; first | (apply hK; clear hK) | (clear hK; rename ∀ st, Tri _ _ _ st _ → _ => hK; first | (apply hK; clear hK) | (clear hK; rename ∀ st, Tri _ _ _ st _ → _ => hK; first | (apply hK; clear hK) | (clear hK; rename ∀ st, Tri _ _ _ st _ → _ => hK; apply hK; clear hK)))))) | skip)
        | (intro β)
        | (rename ∀ st, Tri _ _ _ st _ → _ => hK; apply hK; clear hK))
      refine Tri.ret ⟨_, rfl, ?_⟩
      simp [upd]
      exact Wk.refl _
/-- The first slot in which a frame was delivered, between two; -1 if none. -/
def delI (f n a b : Int) : List Del → Int
  | [] => -1
  | d :: r => if d.flow = f ∧ d.frame = n ∧ a ≤ d.slot ∧ d.slot ≤ b then d.slot else delI f n a b r
def DInv (r : Rec) (f : Flo) (n a b : Int) (m : Nat) (st : St) : Prop := ∃ b5 b6 i, m + i = r.dels.length ∧ st.n = 52 ∧ st.sl 5 = .c (.box 5 b5 0) ∧ st.bx 5 = some (b5, [.int .i64 r.slots, .sl r.an 8 none (r.atts.map attC), .sl r.dn 3 none (r.dels.map delC)]) ∧
  st.sl 6 = .c (.box 6 b6 0) ∧ st.bx 6 = some (b6, floC f) ∧ st.sl 2 = .c (.int .i64 n) ∧ st.sl 3 = .c (.int .i64 a) ∧ st.sl 4 = .c (.int .i64 b) ∧ st.sl 11 = .c (.int .i64 (i : Nat)) ∧ delI f.id n a b r.dels = delI f.id n a b (r.dels.drop i)
theorem delivered_does (r : Rec) (f : Flo) (n a b : Int) (hl : r.dels.length ≤ 1073741824) : Does Try.prog 48 [.agg (recC r), .agg (floC f), .c (.int .i64 n), .c (.int .i64 a), .c (.int .i64 b)] (.c (.int .i64 (delI f.id n a b r.dels))) := by
  refine Does.of_body Try.func48 rfl (by kernel_rfl) rfl rfl (by simp) ?_
  intro E
  simp only [recC]
  repeat (first
    | (refine Tri.seq fun K hK => ?_)
    | (refine Tri.region ?_; simp [upd])
    | (refine Tri.draw (by kernel_rfl) (by decide +kernel) ?_; simp [upd])
    | (refine Tri.cond_true ?_ ?_; (focus simp [upd]; done))
    | (refine Tri.cond_false ?_ ?_; (focus simp [upd]; done))
    | (refine Tri.skip ?_; simp only [thenS, blockS])
    | (refine Tri.block_seq ?_)
    | (refine Tri.block_region ?_)
    | (refine Tri.block_cond ?_)
    | (refine Tri.exit ?_; simp [upd]; first | (rename ∀ st, Tri _ _ _ st _ → _ => hK; first | (apply hK; clear hK) | (clear hK; rename ∀ st, Tri _ _ _ st _ → _ => hK; first | (apply hK; clear hK) | (clear hK; rename ∀ st, Tri _ _ _ st _ → _ => hK; first | (apply hK; clear hK) | (clear hK; rename ∀ st, Tri _ _ _ st _ → _ => hK; first | (apply hK; clear hK) | (clear hK; rename ∀ st, Tri _ _ _ st _ → _ => hK; first | (apply hK; clear hK) | (clear hK; rename ∀ st, Tri _ _ _ st _ → _ => hK; apply hK; clear hK)))))) | skip)
    | (intro β)
    | (rename ∀ st, Tri _ _ _ st _ → _ => hK; apply hK; clear hK))
  rename ∀ st, Tri _ _ _ st _ → _ => hK
  have fin := fun (st : St) (h : st.n = 52 ∧ delI f.id n a b r.dels = -1) => hK st ?tail
  case tail =>
    obtain ⟨hn, e⟩ := h
    rw [e]
    repeat (first
      | (refine Tri.seq fun K hK => ?_)
      | (refine Tri.region ?_; simp [upd, hn])
      | (refine Tri.draw (by kernel_rfl) (by decide +kernel) ?_; simp [upd, hn])
      | (refine Tri.cond_true ?_ ?_; (focus simp [upd, hn]; done))
      | (refine Tri.cond_false ?_ ?_; (focus simp [upd, hn]; done))
      | (refine Tri.skip ?_; simp only [thenS, blockS])
      | (refine Tri.block_seq ?_)
      | (refine Tri.block_region ?_)
      | (refine Tri.block_cond ?_)
      | (refine Tri.exit ?_; simp [upd, hn]; first | (rename ∀ st, Tri _ _ _ st _ → _ => hK; first | (apply hK; clear hK) | (clear hK; rename ∀ st, Tri _ _ _ st _ → _ => hK; first | (apply hK; clear hK) | (clear hK; rename ∀ st, Tri _ _ _ st _ → _ => hK; first | (apply hK; clear hK) | (clear hK; rename ∀ st, Tri _ _ _ st _ → _ => hK; first | (apply hK; clear hK) | (clear hK; rename ∀ st, Tri _ _ _ st _ → _ => hK; first | (apply hK; clear hK) | (clear hK; rename ∀ st, Tri _ _ _ st _ → _ => hK; apply hK; clear hK)))))) | skip)
      | (intro β)
      | (rename ∀ st, Tri _ _ _ st _ → _ => hK; apply hK; clear hK))
    refine Tri.ret ⟨_, rfl, ?_⟩
    simp [upd]
    exact Wk.refl _
  clear hK
  refine Tri.block (Tri.loop (DInv r f n a b) r.dels.length ⟨_, _, 0, rfl, rfl, by simp [upd] <;> exact rfl, by simp [upd] <;> exact rfl, by simp [upd] <;> exact rfl, by simp [upd] <;> exact rfl, by simp [upd], by simp [upd], by simp [upd], by simp [upd], rfl⟩ ?_)
  rintro m st ⟨b5, b6, i, hm, hn, s5, x5, s6, x6, s2, s3, s4, s11, hgo⟩
  by_cases hi : i < r.dels.length
  case neg =>
    repeat (first
      | (refine Tri.seq fun K hK => ?_)
      | (refine Tri.region ?_; simp [upd, hn, s5, x5, s6, x6, s2, s3, s4, s11, hi])
      | (refine Tri.draw (by kernel_rfl) (by decide +kernel) ?_; simp [upd, hn, s5, x5, s6, x6, s2, s3, s4, s11, hi])
      | (refine Tri.cond_true ?_ ?_; (focus simp [upd, hn, s5, x5, s6, x6, s2, s3, s4, s11, hi]; done))
      | (refine Tri.cond_false ?_ ?_; (focus simp [upd, hn, s5, x5, s6, x6, s2, s3, s4, s11, hi]; done))
      | (refine Tri.skip ?_; simp only [thenS, blockS])
      | (refine Tri.block_seq ?_)
      | (refine Tri.block_region ?_)
      | (refine Tri.block_cond ?_)
      | (refine Tri.exit ?_; simp [upd, hn, s5, x5, s6, x6, s2, s3, s4, s11, hi]; first | (rename ∀ st, Tri _ _ _ st _ → _ => hK; first | (apply hK; clear hK) | (clear hK; rename ∀ st, Tri _ _ _ st _ → _ => hK; first | (apply hK; clear hK) | (clear hK; rename ∀ st, Tri _ _ _ st _ → _ => hK; first | (apply hK; clear hK) | (clear hK; rename ∀ st, Tri _ _ _ st _ → _ => hK; first | (apply hK; clear hK) | (clear hK; rename ∀ st, Tri _ _ _ st _ → _ => hK; first | (apply hK; clear hK) | (clear hK; rename ∀ st, Tri _ _ _ st _ → _ => hK; apply hK; clear hK)))))) | skip)
      | (intro β)
      | (rename ∀ st, Tri _ _ _ st _ → _ => hK; apply hK; clear hK))
    apply fin
    refine ⟨rfl, ?_⟩
    rw [hgo, List.drop_of_length_le (by omega), delI]
  have hw : IntKind.i64.wrap ((i : Int) + 1) = (i : Int) + 1 := wrap_i64 (by omega) (by omega)
  have hd : r.dels.drop i = r.dels[i] :: r.dels.drop (i + 1) := List.drop_eq_getElem_cons hi
  rw [hd, delI] at hgo
  cases g1 : (r.dels[i].flow == f.id)
  case false =>
    rw [if_neg (by simp at g1; omega)] at hgo
    repeat (first
      | (refine Tri.seq fun K hK => ?_)
      | (refine Tri.region ?_; simp [upd, hn, s5, x5, s6, x6, s2, s3, s4, s11, hi, hw, g1])
      | (refine Tri.draw (by kernel_rfl) (by decide +kernel) ?_; simp [upd, hn, s5, x5, s6, x6, s2, s3, s4, s11, hi, hw, g1])
      | (refine Tri.cond_true ?_ ?_; (focus simp [upd, hn, s5, x5, s6, x6, s2, s3, s4, s11, hi, hw, g1]; done))
      | (refine Tri.cond_false ?_ ?_; (focus simp [upd, hn, s5, x5, s6, x6, s2, s3, s4, s11, hi, hw, g1]; done))
      | (refine Tri.skip ?_; simp only [thenS, blockS])
      | (refine Tri.block_seq ?_)
      | (refine Tri.block_region ?_)
      | (refine Tri.block_cond ?_)
      | (refine Tri.exit ?_; simp [upd, hn, s5, x5, s6, x6, s2, s3, s4, s11, hi, hw, g1]; first | (rename ∀ st, Tri _ _ _ st _ → _ => hK; first | (apply hK; clear hK) | (clear hK; rename ∀ st, Tri _ _ _ st _ → _ => hK; first | (apply hK; clear hK) | (clear hK; rename ∀ st, Tri _ _ _ st _ → _ => hK; first | (apply hK; clear hK) | (clear hK; rename ∀ st, Tri _ _ _ st _ → _ => hK; first | (apply hK; clear hK) | (clear hK; rename ∀ st, Tri _ _ _ st _ → _ => hK; first | (apply hK; clear hK) | (clear hK; rename ∀ st, Tri _ _ _ st _ → _ => hK; apply hK; clear hK)))))) | skip)
      | (intro β)
      | (rename ∀ st, Tri _ _ _ st _ → _ => hK; apply hK; clear hK))
    exact ⟨m - 1, by omega, b5, b6, i + 1, by omega, rfl, by simp [upd, s5], by simp [upd, x5], by simp [upd, s6], by simp [upd, x6], by simp [upd, s2], by simp [upd, s3], by simp [upd, s4], by simp [upd], hgo⟩
  cases g2 : (r.dels[i].frame == n)
  case false =>
    rw [if_neg (by simp at g2; omega)] at hgo
    repeat (first
      | (refine Tri.seq fun K hK => ?_)
      | (refine Tri.region ?_; simp [upd, hn, s5, x5, s6, x6, s2, s3, s4, s11, hi, hw, g1, g2])
      | (refine Tri.draw (by kernel_rfl) (by decide +kernel) ?_; simp [upd, hn, s5, x5, s6, x6, s2, s3, s4, s11, hi, hw, g1, g2])
      | (refine Tri.cond_true ?_ ?_; (focus simp [upd, hn, s5, x5, s6, x6, s2, s3, s4, s11, hi, hw, g1, g2]; done))
      | (refine Tri.cond_false ?_ ?_; (focus simp [upd, hn, s5, x5, s6, x6, s2, s3, s4, s11, hi, hw, g1, g2]; done))
      | (refine Tri.skip ?_; simp only [thenS, blockS])
      | (refine Tri.block_seq ?_)
      | (refine Tri.block_region ?_)
      | (refine Tri.block_cond ?_)
      | (refine Tri.exit ?_; simp [upd, hn, s5, x5, s6, x6, s2, s3, s4, s11, hi, hw, g1, g2]; first | (rename ∀ st, Tri _ _ _ st _ → _ => hK; first | (apply hK; clear hK) | (clear hK; rename ∀ st, Tri _ _ _ st _ → _ => hK; first | (apply hK; clear hK) | (clear hK; rename ∀ st, Tri _ _ _ st _ → _ => hK; first | (apply hK; clear hK) | (clear hK; rename ∀ st, Tri _ _ _ st _ → _ => hK; first | (apply hK; clear hK) | (clear hK; rename ∀ st, Tri _ _ _ st _ → _ => hK; first | (apply hK; clear hK) | (clear hK; rename ∀ st, Tri _ _ _ st _ → _ => hK; apply hK; clear hK)))))) | skip)
      | (intro β)
      | (rename ∀ st, Tri _ _ _ st _ → _ => hK; apply hK; clear hK))
    exact ⟨m - 1, by omega, b5, b6, i + 1, by omega, rfl, by simp [upd, s5], by simp [upd, x5], by simp [upd, s6], by simp [upd, x6], by simp [upd, s2], by simp [upd, s3], by simp [upd, s4], by simp [upd], hgo⟩
  simp only [beq_iff_eq] at g1 g2
  by_cases g3 : a ≤ r.dels[i].slot
  case neg =>
    rw [if_neg (by omega)] at hgo
    repeat (first
      | (refine Tri.seq fun K hK => ?_)
      | (refine Tri.region ?_; simp [upd, hn, s5, x5, s6, x6, s2, s3, s4, s11, hi, hw, g1, g2, g3])
      | (refine Tri.draw (by kernel_rfl) (by decide +kernel) ?_; simp [upd, hn, s5, x5, s6, x6, s2, s3, s4, s11, hi, hw, g1, g2, g3])
      | (refine Tri.cond_true ?_ ?_; (focus simp [upd, hn, s5, x5, s6, x6, s2, s3, s4, s11, hi, hw, g1, g2, g3]; done))
      | (refine Tri.cond_false ?_ ?_; (focus simp [upd, hn, s5, x5, s6, x6, s2, s3, s4, s11, hi, hw, g1, g2, g3]; done))
      | (refine Tri.skip ?_; simp only [thenS, blockS])
      | (refine Tri.block_seq ?_)
      | (refine Tri.block_region ?_)
      | (refine Tri.block_cond ?_)
      | (refine Tri.exit ?_; simp [upd, hn, s5, x5, s6, x6, s2, s3, s4, s11, hi, hw, g1, g2, g3]; first | (rename ∀ st, Tri _ _ _ st _ → _ => hK; first | (apply hK; clear hK) | (clear hK; rename ∀ st, Tri _ _ _ st _ → _ => hK; first | (apply hK; clear hK) | (clear hK; rename ∀ st, Tri _ _ _ st _ → _ => hK; first | (apply hK; clear hK) | (clear hK; rename ∀ st, Tri _ _ _ st _ → _ => hK; first | (apply hK; clear hK) | (clear hK; rename ∀ st, Tri _ _ _ st _ → _ => hK; first | (apply hK; clear hK) | (clear hK; rename ∀ st, Tri _ _ _ st _ → _ => hK; apply hK; clear hK)))))) | skip)
      | (intro β)
      | (rename ∀ st, Tri _ _ _ st _ → _ => hK; apply hK; clear hK))
    exact ⟨m - 1, by omega, b5, b6, i + 1, by omega, rfl, by simp [upd, s5], by simp [upd, x5], by simp [upd, s6], by simp [upd, x6], by simp [upd, s2], by simp [upd, s3], by simp [upd, s4], by simp [upd], hgo⟩
  by_cases g4 : r.dels[i].slot ≤ b
  case neg =>
    rw [if_neg (by omega)] at hgo
    repeat (first
      | (refine Tri.seq fun K hK => ?_)
      | (refine Tri.region ?_; simp [upd, hn, s5, x5, s6, x6, s2, s3, s4, s11, hi, hw, g1, g2, g3, g4])
      | (refine Tri.draw (by kernel_rfl) (by decide +kernel) ?_; simp [upd, hn, s5, x5, s6, x6, s2, s3, s4, s11, hi, hw, g1, g2, g3, g4])
      | (refine Tri.cond_true ?_ ?_; (focus simp [upd, hn, s5, x5, s6, x6, s2, s3, s4, s11, hi, hw, g1, g2, g3, g4]; done))
      | (refine Tri.cond_false ?_ ?_; (focus simp [upd, hn, s5, x5, s6, x6, s2, s3, s4, s11, hi, hw, g1, g2, g3, g4]; done))
      | (refine Tri.skip ?_; simp only [thenS, blockS])
      | (refine Tri.block_seq ?_)
      | (refine Tri.block_region ?_)
      | (refine Tri.block_cond ?_)
      | (refine Tri.exit ?_; simp [upd, hn, s5, x5, s6, x6, s2, s3, s4, s11, hi, hw, g1, g2, g3, g4]; first | (rename ∀ st, Tri _ _ _ st _ → _ => hK; first | (apply hK; clear hK) | (clear hK; rename ∀ st, Tri _ _ _ st _ → _ => hK; first | (apply hK; clear hK) | (clear hK; rename ∀ st, Tri _ _ _ st _ → _ => hK; first | (apply hK; clear hK) | (clear hK; rename ∀ st, Tri _ _ _ st _ → _ => hK; first | (apply hK; clear hK) | (clear hK; rename ∀ st, Tri _ _ _ st _ → _ => hK; first | (apply hK; clear hK) | (clear hK; rename ∀ st, Tri _ _ _ st _ → _ => hK; apply hK; clear hK)))))) | skip)
      | (intro β)
      | (rename ∀ st, Tri _ _ _ st _ → _ => hK; apply hK; clear hK))
    exact ⟨m - 1, by omega, b5, b6, i + 1, by omega, rfl, by simp [upd, s5], by simp [upd, x5], by simp [upd, s6], by simp [upd, x6], by simp [upd, s2], by simp [upd, s3], by simp [upd, s4], by simp [upd], hgo⟩
  rw [if_pos ⟨g1, g2, g3, g4⟩] at hgo
  rw [hgo]
  repeat (first
    | (refine Tri.seq fun K hK => ?_)
    | (refine Tri.region ?_; simp [upd, hn, s5, x5, s6, x6, s2, s3, s4, s11, hi, g1, g2, g3, g4])
    | (refine Tri.draw (by kernel_rfl) (by decide +kernel) ?_; simp [upd, hn, s5, x5, s6, x6, s2, s3, s4, s11, hi, g1, g2, g3, g4])
    | (refine Tri.cond_true ?_ ?_; (focus simp [upd, hn, s5, x5, s6, x6, s2, s3, s4, s11, hi, g1, g2, g3, g4]; done))
    | (refine Tri.cond_false ?_ ?_; (focus simp [upd, hn, s5, x5, s6, x6, s2, s3, s4, s11, hi, g1, g2, g3, g4]; done))
    | (refine Tri.skip ?_; simp only [thenS, blockS])
    | (refine Tri.block_seq ?_)
    | (refine Tri.block_region ?_)
    | (refine Tri.block_cond ?_)
    | (refine Tri.exit ?_; simp [upd, hn, s5, x5, s6, x6, s2, s3, s4, s11, hi, g1, g2, g3, g4]; first | (rename ∀ st, Tri _ _ _ st _ → _ => hK; first | (apply hK; clear hK) | (clear hK; rename ∀ st, Tri _ _ _ st _ → _ => hK; first | (apply hK; clear hK) | (clear hK; rename ∀ st, Tri _ _ _ st _ → _ => hK; first | (apply hK; clear hK) | (clear hK; rename ∀ st, Tri _ _ _ st _ → _ => hK; first | (apply hK; clear hK) | (clear hK; rename ∀ st, Tri _ _ _ st _ → _ => hK; first | (apply hK; clear hK) | (clear hK; rename ∀ st, Tri _ _ _ st _ → _ => hK; apply hK; clear hK)))))) | skip)
    | (intro β)
    | (rename ∀ st, Tri _ _ _ st _ → _ => hK; apply hK; clear hK))
  refine Tri.ret ⟨_, rfl, ?_⟩
  simp [upd]
  exact Wk.refl _
end Go.Proofs.Ytngbpmiikpjiaaa
end
section
open Go Go.Vm
namespace Go.Proofs.Ytngbpmiikpjiaaa
set_option maxRecDepth 100000
set_option maxHeartbeats 4000000
set_option linter.unusedSimpArgs false
attribute [-simp] isObj C.isO
/-- The plain law of Late: the reference's late frames are the program's. -/
theorem fold_late (first last due late : Int) (h : 0 ≤ late) : ∀ (l : List Int), arrGo first last due late l = match l.find? (fun s => decide (first ≤ s) && decide (s ≤ due)) with
    | some s => (s, true)
    | none => (late, false)
  | [] => rfl
  | s :: r => by
    rw [arrGo, List.find?_cons]
    by_cases h1 : first ≤ s ∧ s ≤ due
    · rw [if_pos h1]; simp [h1]
    · rw [if_neg h1, if_neg (by omega)]
      have e : (decide (first ≤ s) && decide (s ≤ due)) = false := by
        simp only [Bool.and_eq_false_iff, decide_eq_false_iff_not]; omega
      rw [e]
      exact fold_late first last due late h r
theorem arrGo_eq (first last due : Int) : ∀ (l : List Int), (∀ s ∈ l, 0 ≤ s) → arrGo first last due (-1) l = match l.find? (fun s => decide (first ≤ s) && decide (s ≤ due)) with
    | some s => (s, true)
    | none => ((l.find? (fun s => decide (due < s) && decide (s ≤ last))).getD (-1), false)
  | [], _ => rfl
  | s :: r, h => by
    have hs := h s (List.mem_cons_self ..)
    have ih := arrGo_eq first last due r (fun x hx => h x (List.mem_cons_of_mem _ hx))
    rw [arrGo, List.find?_cons, List.find?_cons]
    by_cases h1 : first ≤ s ∧ s ≤ due
    · rw [if_pos h1]; simp [h1]
    · rw [if_neg h1]
      have e : (decide (first ≤ s) && decide (s ≤ due)) = false := by
        simp only [Bool.and_eq_false_iff, decide_eq_false_iff_not]; omega
      rw [e]
      by_cases h2 : due < s ∧ s ≤ last
      · rw [if_pos ⟨h2.1, h2.2, by omega⟩, fold_late _ _ _ _ hs]
        simp [h2]
      · rw [if_neg (by omega), ih]
        have e2 : (decide (due < s) && decide (s ≤ last)) = false := by
          simp only [Bool.and_eq_false_iff, decide_eq_false_iff_not]; omega
        rw [e2]
theorem delI_eq (f n a b : Int) : ∀ (l : List Del), delI f n a b l = ((slotsOf f n l).find? (fun s => decide (a ≤ s) && decide (s ≤ b))).getD (-1)
  | [] => rfl
  | d :: r => by
    have ih := delI_eq f n a b r
    unfold slotsOf at ih ⊢
    rw [delI, List.filter_cons]
    by_cases h1 : d.flow = f ∧ d.frame = n
    · rw [if_pos (show (d.flow == f && d.frame == n) = true by simpa using h1), List.map_cons, List.find?_cons]
      by_cases h2 : a ≤ d.slot ∧ d.slot ≤ b
      · rw [if_pos ⟨h1.1, h1.2, h2⟩]; simp [h2]
      · rw [if_neg (fun h => h2 h.2.2), ih]
        have e : (decide (a ≤ d.slot) && decide (d.slot ≤ b)) = false := by
          simp only [Bool.and_eq_false_iff, decide_eq_false_iff_not]; omega
        rw [e]
    · rw [if_neg (fun h => h1 ⟨h.1, h.2.1⟩), if_neg (show ¬ (d.flow == f && d.frame == n) = true by simpa using h1), ih]
/-- arrival, by deliveries. -/
theorem arrI_del (f : Flo) (n : Int) (dels : List Del) (h : ∀ d ∈ dels, 0 ≤ d.slot) (k : Int) : arrI f k (slotsOf f.id n dels) =
    (if delI f.id n (relI f k) (relI f k + f.dea - 1) dels < 0 then (delI f.id n (relI f k + f.dea) (relI f k + f.per - 1) dels, false) else (delI f.id n (relI f k) (relI f k + f.dea - 1) dels, true)) := by
  have hs : ∀ s ∈ slotsOf f.id n dels, 0 ≤ s := by
    intro s hs
    unfold slotsOf at hs
    obtain ⟨d, hd, rfl⟩ := List.mem_map.1 hs
    exact h d (List.mem_filter.1 hd).1
  unfold arrI
  rw [arrGo_eq _ _ _ _ hs, delI_eq, delI_eq]
  have e : (fun s : Int => decide (relI f k + f.dea ≤ s) && decide (s ≤ relI f k + f.per - 1)) = fun s => decide (relI f k + f.dea - 1 < s) && decide (s ≤ relI f k + f.per - 1) := by
    funext s
    congr 1
    exact decide_eq_decide.2 (by omega)
  rw [e]
  cases hf : (slotsOf f.id n dels).find? (fun s => decide (relI f k ≤ s) && decide (s ≤ relI f k + f.dea - 1)) with
  | none => simp
  | some s =>
    have := hs s (List.mem_of_find?_eq_some hf)
    simp; omega
/-- A late frame as the reference finds it. -/
def lateR1 (f : Flo) (dels : List Del) (k : Nat) : List Lat := if delI f.id k (relI f k) (relI f k + f.dea - 1) dels < 0 then [⟨f.id, k, delI f.id k (relI f k + f.dea) (relI f k + f.per - 1) dels⟩] else []
theorem late1_R (f : Flo) (dels : List Del) (h : ∀ d ∈ dels, 0 ≤ d.slot) (k : Nat) : late1 f dels k = lateR1 f dels k := by
  unfold late1 lateR1
  rw [arrI_del f k dels h k]
  split <;> simp
theorem comp_iff {f : Flo} {s : Int} (h : FloP 32 f) (k : Nat) : relI f k + f.dea ≤ s ↔ (k : Int) < compI f s := by
  obtain ⟨-, -, -, -, p1, p2, q0, q1, d1, d2, ne⟩ := h
  unfold relI compI
  have hp : (0 : Int) < f.per := by omega
  split
  · rename_i hx
    rw [Int.tdiv_eq_ediv_of_nonneg hx]
    have h1 : (k : Int) * f.per ≤ s - f.pha - f.dea ↔ (k : Int) ≤ (s - f.pha - f.dea) / f.per := (Int.le_ediv_iff_mul_le hp).symm
    omega
  · have : 0 ≤ (k : Int) * f.per := Int.mul_nonneg (by omega) (by omega)
    omega
theorem check_dels {r : Rec} (h : check r = 0) : ∀ d ∈ r.dels, 0 ≤ d.slot := fun d hd => ((check_iff r).1 h).dels.1 d hd |>.2.2.2.2.1
end Go.Proofs.Ytngbpmiikpjiaaa
end
section
open Go Go.Vm
namespace Go.Proofs.Ytngbpmiikpjiaaa
set_option maxRecDepth 100000
set_option maxHeartbeats 4000000
set_option linter.unusedSimpArgs false
attribute [-simp] isObj C.isO
attribute [local irreducible] Tri Does DoesB DoesR Rounds check fault flowsE arr slotsOf inB delI relI compI
structure RJ (l : List Flo) (nl : Bool) (r : Rec) (st : St) (b3 : Nat) (i : Nat) (acc : List Lat) : Prop where
  hn : st.n = 74
  s0 : st.sl 0 = .c (.sl nl 6 none (l.map floC))
  s3 : st.sl 3 = .c (.box 3 b3 0)
  x3 : st.bx 3 = some (b3, [.int .i64 r.slots, .sl r.an 8 none (r.atts.map attC), .sl r.dn 3 none (r.dels.map delC)])
  s8 : st.sl 8 = .c (.int .i64 (i : Nat))
  g7 : Grows st (st.sl 7) 72 68 3 (acc.map latC)
def RInv1 (l : List Flo) (nl : Bool) (r : Rec) (m : Nat) (st : St) : Prop := ∃ b3 i, m + i = l.length ∧ RJ l nl r st b3 i ((l.take i).flatMap fun f => lateF f r)
def RInv2 (l : List Flo) (nl : Bool) (r : Rec) (i : Nat) (f : Flo) (m : Nat) (st : St) : Prop := ∃ b3 b9 j, m + j = (compI f r.slots).toNat ∧ RJ l nl r st b3 i (((l.take i).flatMap fun f => lateF f r) ++ (List.range j).flatMap (late1 f r.dels)) ∧
  st.sl 9 = .c (.box 9 b9 0) ∧ st.bx 9 = some (b9, floC f) ∧ st.sl 10 = .c (.int .i64 (j : Nat))
theorem lateR_does (l : List Flo) (nl : Bool) (r : Rec) : Does Try.prog 14 [.c (.sl nl 6 none (l.map floC)), .agg (recC r)] (.tup [.c (.sl (lateN l r).isEmpty 3 none ((lateN l r).map latC)), .c (.int .i64 (lateE l r))]) := by
  refine Does.of_body Try.func14 rfl (by kernel_rfl) rfl rfl (by simp) ?_
  intro E
  have hr := checkM_does l nl r
  by_cases hg : flowsE l = 0 ∧ check r = 0
  case neg =>
    have e1 : lateN l r = [] := by rw [lateN, if_neg hg]
    have e2 : lateE l r = 1 := by rw [lateE, if_neg hg]
    rw [e1, e2]
    rw [e2] at hr
    simp only [recC] at hr ⊢
    repeat (first
      | (refine Tri.seq fun K hK => ?_)
      | (refine Tri.region ?_; simp [upd, bne])
      | (refine Tri.draw (by kernel_rfl) (by decide +kernel) ?_; simp [upd, bne])
      | (refine Tri.cond_true ?_ ?_; (focus simp [upd, bne]; done))
      | (refine Tri.cond_false ?_ ?_; (focus simp [upd, bne]; done))
      | (refine Tri.skip ?_; simp only [thenS, blockS])
      | (refine Tri.block_seq ?_)
      | (refine Tri.block_region ?_)
      | (refine Tri.block_cond ?_)
      | ((with_reducible refine CallK.pure (hr) (Wks.refl _) ?_); simp [upd, bne])
      | (refine Tri.exit ?_; simp [upd, bne]; first | (rename ∀ st, Tri _ _ _ st _ → _ => hK; first | (apply hK; clear hK) | (clear hK; rename ∀ st, Tri _ _ _ st _ → _ => hK; first | (apply hK; clear hK) | (clear hK; rename ∀ st, Tri _ _ _ st _ → _ => hK; first | (apply hK; clear hK) | (clear hK; rename ∀ st, Tri _ _ _ st _ → _ => hK; first | (apply hK; clear hK) | (clear hK; rename ∀ st, Tri _ _ _ st _ → _ => hK; first | (apply hK; clear hK) | (clear hK; rename ∀ st, Tri _ _ _ st _ → _ => hK; apply hK; clear hK)))))) | skip)
      | (intro β)
      | (rename ∀ st, Tri _ _ _ st _ → _ => hK; apply hK; clear hK))
    refine Tri.ret ⟨_, rfl, ?_⟩
    simp [upd]
    exact .tup2 (.nil _ _ _ _) (.refl _)
  have e1 : lateN l r = lates l r := by rw [lateN, if_pos hg]
  have e2 : lateE l r = 0 := by rw [lateE, if_pos hg]
  rw [e1, e2]
  rw [e2] at hr
  obtain ⟨hl16, hfa, -⟩ := flows_ok hg.1
  obtain ⟨hs0, hs1⟩ := check_slots hg.2
  obtain ⟨hl1, hl2⟩ := check_lens hg.2
  have hdel := check_dels hg.2
  have hdd := fun f n a b => delivered_does r f n a b (by omega)
  simp only [recC] at hr hdd ⊢
  have hlen : ∀ k, k ≤ l.length → ((l.take k).flatMap fun f => lateF f r).length ≤ k * 4097 := fun k hk => by
    have := flatMap_le (fun f => lateF f r) 4097 (l.take k) (fun f hf => by
      obtain ⟨i, hi, rfl⟩ := List.getElem_of_mem (List.mem_of_mem_take hf)
      exact lateF_len _ r (hfa i hi) hs0 hs1)
    rwa [List.length_take_of_le hk] at this
  repeat (first
    | (refine Tri.seq fun K hK => ?_)
    | (refine Tri.region ?_; simp [upd, bne])
    | (refine Tri.draw (by kernel_rfl) (by decide +kernel) ?_; simp [upd, bne])
    | (refine Tri.cond_true ?_ ?_; (focus simp [upd, bne]; done))
    | (refine Tri.cond_false ?_ ?_; (focus simp [upd, bne]; done))
    | (refine Tri.skip ?_; simp only [thenS, blockS])
    | (refine Tri.block_seq ?_)
    | (refine Tri.block_region ?_)
    | (refine Tri.block_cond ?_)
    | ((with_reducible refine CallK.pure (hr) (Wks.refl _) ?_); simp [upd, bne])
    | (refine Tri.exit ?_; simp [upd, bne]; first | (rename ∀ st, Tri _ _ _ st _ → _ => hK; first | (apply hK; clear hK) | (clear hK; rename ∀ st, Tri _ _ _ st _ → _ => hK; first | (apply hK; clear hK) | (clear hK; rename ∀ st, Tri _ _ _ st _ → _ => hK; first | (apply hK; clear hK) | (clear hK; rename ∀ st, Tri _ _ _ st _ → _ => hK; first | (apply hK; clear hK) | (clear hK; rename ∀ st, Tri _ _ _ st _ → _ => hK; first | (apply hK; clear hK) | (clear hK; rename ∀ st, Tri _ _ _ st _ → _ => hK; apply hK; clear hK)))))) | skip)
    | (intro β)
    | (rename ∀ st, Tri _ _ _ st _ → _ => hK; apply hK; clear hK))
  rename ∀ st, Tri _ _ _ st _ → _ => hK
  have fin := fun (st : St) (h : RInv1 l nl r 0 st) => hK st ?tail
  case tail =>
    obtain ⟨b3, i, hi, ⟨hn, s0, s3, x3, s8, g7⟩⟩ := h
    rw [List.take_of_length_le (by omega)] at g7
    have hw := g7.wk
    change Wk _ (.c (.sl ((lates l r).map latC).isEmpty 3 none ((lates l r).map latC))) at hw
    repeat (first
      | (refine Tri.seq fun K hK => ?_)
      | (refine Tri.region ?_; simp [upd, hn])
      | (refine Tri.draw (by kernel_rfl) (by decide +kernel) ?_; simp [upd, hn])
      | (refine Tri.cond_true ?_ ?_; (focus simp [upd, hn]; done))
      | (refine Tri.cond_false ?_ ?_; (focus simp [upd, hn]; done))
      | (refine Tri.skip ?_; simp only [thenS, blockS])
      | (refine Tri.block_seq ?_)
      | (refine Tri.block_region ?_)
      | (refine Tri.block_cond ?_)
      | (refine Tri.exit ?_; simp [upd, hn]; first | (rename ∀ st, Tri _ _ _ st _ → _ => hK; first | (apply hK; clear hK) | (clear hK; rename ∀ st, Tri _ _ _ st _ → _ => hK; first | (apply hK; clear hK) | (clear hK; rename ∀ st, Tri _ _ _ st _ → _ => hK; first | (apply hK; clear hK) | (clear hK; rename ∀ st, Tri _ _ _ st _ → _ => hK; first | (apply hK; clear hK) | (clear hK; rename ∀ st, Tri _ _ _ st _ → _ => hK; first | (apply hK; clear hK) | (clear hK; rename ∀ st, Tri _ _ _ st _ → _ => hK; apply hK; clear hK)))))) | skip)
      | (intro β)
      | (rename ∀ st, Tri _ _ _ st _ → _ => hK; apply hK; clear hK))
    refine Tri.ret ⟨_, rfl, ?_⟩
    simp [upd]
    refine .tup2 ?_ (.refl _)
    simpa using hw
  clear hK
  refine Tri.block (Tri.loop (RInv1 l nl r) l.length ⟨_, 0, rfl, ⟨rfl, by simp [upd], by simp [upd] <;> exact rfl, by simp [upd] <;> exact rfl, by simp [upd], by simp [upd, Grows]⟩⟩ ?_)
  rintro m st ⟨b3, i, hm, ⟨hn, s0, s3, x3, s8, g7⟩⟩
  by_cases hi : i < l.length
  case neg =>
    repeat (first
      | (refine Tri.seq fun K hK => ?_)
      | (refine Tri.region ?_; simp [upd, hn, s0, s3, x3, s8, hi])
      | (refine Tri.draw (by kernel_rfl) (by decide +kernel) ?_; simp [upd, hn, s0, s3, x3, s8, hi])
      | (refine Tri.cond_true ?_ ?_; (focus simp [upd, hn, s0, s3, x3, s8, hi]; done))
      | (refine Tri.cond_false ?_ ?_; (focus simp [upd, hn, s0, s3, x3, s8, hi]; done))
      | (refine Tri.skip ?_; simp only [thenS, blockS])
      | (refine Tri.block_seq ?_)
      | (refine Tri.block_region ?_)
      | (refine Tri.block_cond ?_)
      | (refine Tri.exit ?_; simp [upd, hn, s0, s3, x3, s8, hi]; first | (rename ∀ st, Tri _ _ _ st _ → _ => hK; first | (apply hK; clear hK) | (clear hK; rename ∀ st, Tri _ _ _ st _ → _ => hK; first | (apply hK; clear hK) | (clear hK; rename ∀ st, Tri _ _ _ st _ → _ => hK; first | (apply hK; clear hK) | (clear hK; rename ∀ st, Tri _ _ _ st _ → _ => hK; first | (apply hK; clear hK) | (clear hK; rename ∀ st, Tri _ _ _ st _ → _ => hK; first | (apply hK; clear hK) | (clear hK; rename ∀ st, Tri _ _ _ st _ → _ => hK; apply hK; clear hK)))))) | skip)
      | (intro β)
      | (rename ∀ st, Tri _ _ _ st _ → _ => hK; apply hK; clear hK))
    apply fin
    exact ⟨b3, i, by omega, ⟨rfl, by simp [upd, s0], by simp [upd, s3], by simp [upd, x3], by simp [upd, s8], by simpa [upd, Grows] using g7⟩⟩
  have hf := hfa i hi
  have hp := fault_ok hf
  have hcb := comp_b hf hs0 hs1
  have hlk := hlen i (by omega)
  have hwi : IntKind.i64.wrap ((i : Int) + 1) = (i : Int) + 1 := wrap_i64 (by omega) (by omega)
  have htk : (l.take (i + 1)).flatMap (fun f => lateF f r) = (l.take i).flatMap (fun f => lateF f r) ++ (List.range (compI l[i] r.slots).toNat).flatMap (late1 l[i] r.dels) := by
    rw [List.take_succ_eq_append_getElem hi, List.flatMap_append]; simp [lateF]
  repeat (first
    | (refine Tri.seq fun K hK => ?_)
    | (refine Tri.region ?_; simp [upd, hn, s0, s3, x3, s8, hi])
    | (refine Tri.draw (by kernel_rfl) (by decide +kernel) ?_; simp [upd, hn, s0, s3, x3, s8, hi])
    | (refine Tri.cond_true ?_ ?_; (focus simp [upd, hn, s0, s3, x3, s8, hi]; done))
    | (refine Tri.cond_false ?_ ?_; (focus simp [upd, hn, s0, s3, x3, s8, hi]; done))
    | (refine Tri.skip ?_; simp only [thenS, blockS])
    | (refine Tri.block_seq ?_)
    | (refine Tri.block_region ?_)
    | (refine Tri.block_cond ?_)
    | (refine Tri.exit ?_; simp [upd, hn, s0, s3, x3, s8, hi]; first | (rename ∀ st, Tri _ _ _ st _ → _ => hK; first | (apply hK; clear hK) | (clear hK; rename ∀ st, Tri _ _ _ st _ → _ => hK; first | (apply hK; clear hK) | (clear hK; rename ∀ st, Tri _ _ _ st _ → _ => hK; first | (apply hK; clear hK) | (clear hK; rename ∀ st, Tri _ _ _ st _ → _ => hK; first | (apply hK; clear hK) | (clear hK; rename ∀ st, Tri _ _ _ st _ → _ => hK; first | (apply hK; clear hK) | (clear hK; rename ∀ st, Tri _ _ _ st _ → _ => hK; apply hK; clear hK)))))) | skip)
    | (intro β)
    | (rename ∀ st, Tri _ _ _ st _ → _ => hK; apply hK; clear hK))
  rename ∀ st, Tri _ _ _ st _ → _ => hK
  have fin2 := fun (st : St) (h : RInv2 l nl r i l[i] 0 st) => hK st ?tail2
  case tail2 =>
    obtain ⟨b3, b9, j, hj, ⟨hn, s0, s3, x3, s8, g7⟩, s9, x9, s10⟩ := h
    obtain rfl : j = (compI l[i] r.slots).toNat := by omega
    rw [← htk] at g7
    repeat (first
      | (refine Tri.seq fun K hK => ?_)
      | (refine Tri.region ?_; simp [upd, hn, s0, s3, x3, s8, hwi])
      | (refine Tri.draw (by kernel_rfl) (by decide +kernel) ?_; simp [upd, hn, s0, s3, x3, s8, hwi])
      | (refine Tri.cond_true ?_ ?_; (focus simp [upd, hn, s0, s3, x3, s8, hwi]; done))
      | (refine Tri.cond_false ?_ ?_; (focus simp [upd, hn, s0, s3, x3, s8, hwi]; done))
      | (refine Tri.skip ?_; simp only [thenS, blockS])
      | (refine Tri.block_seq ?_)
      | (refine Tri.block_region ?_)
      | (refine Tri.block_cond ?_)
      | (refine Tri.exit ?_; simp [upd, hn, s0, s3, x3, s8, hwi]; first | (rename ∀ st, Tri _ _ _ st _ → _ => hK; first | (apply hK; clear hK) | (clear hK; rename ∀ st, Tri _ _ _ st _ → _ => hK; first | (apply hK; clear hK) | (clear hK; rename ∀ st, Tri _ _ _ st _ → _ => hK; first | (apply hK; clear hK) | (clear hK; rename ∀ st, Tri _ _ _ st _ → _ => hK; first | (apply hK; clear hK) | (clear hK; rename ∀ st, Tri _ _ _ st _ → _ => hK; first | (apply hK; clear hK) | (clear hK; rename ∀ st, Tri _ _ _ st _ → _ => hK; apply hK; clear hK)))))) | skip)
      | (intro β)
      | (rename ∀ st, Tri _ _ _ st _ → _ => hK; apply hK; clear hK))
    exact ⟨m - 1, by omega, b3, i + 1, by omega, ⟨rfl, by simp [upd, s0], by simp [upd, s3], by simp [upd, x3], by simp [upd], by simpa [upd, Grows] using g7⟩⟩
  clear hK fin
  refine Tri.block (Tri.loop (RInv2 l nl r i l[i]) (compI l[i] r.slots).toNat ⟨b3, _, 0, rfl, ⟨rfl, by simp [upd, s0], by simp [upd, s3], by simp [upd, x3], by simp [upd, s8], by simpa [upd, Grows] using g7⟩, by simp [upd] <;> exact rfl, by simp [upd] <;> exact rfl, by simp [upd]⟩ ?_)
  rintro m' st' ⟨b3, b9, j, hj, ⟨hn, s0, s3, x3, s8, g7⟩, s9, x9, s10⟩
  have hrel := relR_does l[i] j hp (by omega) (by omega)
  have hrb := relI_b (k := j) hp (by omega) (by omega)
  have hci := comp_iff (s := r.slots) hp j
  have hl1j := late1_R l[i] r.dels hdel j
  have hd1 := hdd l[i] j (relI l[i] j) (relI l[i] j + l[i].dea - 1)
  have hd2 := hdd l[i] j (relI l[i] j + l[i].dea) (relI l[i] j + l[i].per - 1)
  obtain ⟨-, -, -, -, p1, p2, q0, q1, d1, d2, ne⟩ := hp
  have w1 : IntKind.i64.wrap (relI l[i] j + l[i].dea) = relI l[i] j + l[i].dea := wrap_i64 (by omega) (by omega)
  have w2 : IntKind.i64.wrap (relI l[i] j + l[i].dea - 1) = relI l[i] j + l[i].dea - 1 := wrap_i64 (by omega) (by omega)
  have w3 : IntKind.i64.wrap (relI l[i] j + l[i].per) = relI l[i] j + l[i].per := wrap_i64 (by omega) (by omega)
  have w4 : IntKind.i64.wrap (relI l[i] j + l[i].per - 1) = relI l[i] j + l[i].per - 1 := wrap_i64 (by omega) (by omega)
  have hwj : IntKind.i64.wrap ((j : Int) + 1) = (j : Int) + 1 := wrap_i64 (by omega) (by omega)
  have hacc : (((l.take i).flatMap fun f => lateF f r) ++ (List.range j).flatMap (late1 l[i] r.dels)).length ≤ i * 4097 + j := by
    rw [List.length_append]
    have := flatMap_le (late1 l[i] r.dels) 1 (List.range j) (fun x _ => late1_len l[i] r.dels x)
    rw [List.length_range] at this
    omega
  have hnx : ((l.take i).flatMap fun f => lateF f r) ++ (List.range (j + 1)).flatMap (late1 l[i] r.dels) = (((l.take i).flatMap fun f => lateF f r) ++ (List.range j).flatMap (late1 l[i] r.dels)) ++ late1 l[i] r.dels j := by
    rw [List.range_succ, List.flatMap_append, List.append_assoc]; simp
  by_cases hcj : relI l[i] j + l[i].dea ≤ r.slots
  case neg =>
    have hq : True := trivial
    have w5 : True := trivial
    repeat (first
      | (refine Tri.seq fun K hK => ?_)
      | (refine Tri.region ?_; simp [upd, hn, s0, s3, x3, s8, s9, x9, s10, w1, w2, w3, w4, w5, hcj, hwj, hq, hi])
      | (refine Tri.draw (by kernel_rfl) (by decide +kernel) ?_; simp [upd, hn, s0, s3, x3, s8, s9, x9, s10, w1, w2, w3, w4, w5, hcj, hwj, hq, hi])
      | (refine Tri.draw2 [] [0, 1, 2, 3, 4, 5, 6, 7, 8] [] [] (by kernel_rfl) (by kernel_rfl) (by decide) (by rfl) (by decide +kernel) ?_; simp [upd, hn, s0, s3, x3, s8, s9, x9, s10, w1, w2, w3, w4, w5, hcj, hwj, hq, hi])
      | (refine Tri.draw2 [] [0, 1, 2, 3, 4, 5, 6, 7, 8, 9, 10, 11, 12, 13, 14, 15, 16, 17, 18] [19, 20] [] (by kernel_rfl) (by kernel_rfl) (by decide) (by rfl) (by decide +kernel) ?_; simp [upd, hn, s0, s3, x3, s8, s9, x9, s10, w1, w2, w3, w4, w5, hcj, hwj, hq, hi])
      | (refine Tri.cond_true ?_ ?_; (focus simp [upd, hn, s0, s3, x3, s8, s9, x9, s10, w1, w2, w3, w4, w5, hcj, hwj, hq, hi]; done))
      | (refine Tri.cond_false ?_ ?_; (focus simp [upd, hn, s0, s3, x3, s8, s9, x9, s10, w1, w2, w3, w4, w5, hcj, hwj, hq, hi]; done))
      | (refine Tri.skip ?_; simp only [thenS, blockS])
      | (refine Tri.block_seq ?_)
      | (refine Tri.block_region ?_)
      | (refine Tri.block_cond ?_)
      | ((with_reducible refine CallK.pure (hrel) (Wks.refl _) ?_); simp [upd, hn, s0, s3, x3, s8, s9, x9, s10, w1, w2, w3, w4, w5, hcj, hwj, hq, hi])
      | ((with_reducible refine CallK.pure (hd1) (Wks.refl _) ?_); simp [upd, hn, s0, s3, x3, s8, s9, x9, s10, w1, w2, w3, w4, w5, hcj, hwj, hq, hi])
      | ((with_reducible refine CallK.pure (hd2) (Wks.refl _) ?_); simp [upd, hn, s0, s3, x3, s8, s9, x9, s10, w1, w2, w3, w4, w5, hcj, hwj, hq, hi])
      | (refine Tri.exit ?_; simp [upd, hn, s0, s3, x3, s8, s9, x9, s10, w1, w2, w3, w4, w5, hcj, hwj, hq, hi]; first | (rename ∀ st, Tri _ _ _ st _ → _ => hK; first | (apply hK; clear hK) | (clear hK; rename ∀ st, Tri _ _ _ st _ → _ => hK; first | (apply hK; clear hK) | (clear hK; rename ∀ st, Tri _ _ _ st _ → _ => hK; first | (apply hK; clear hK) | (clear hK; rename ∀ st, Tri _ _ _ st _ → _ => hK; first | (apply hK; clear hK) | (clear hK; rename ∀ st, Tri _ _ _ st _ → _ => hK; first | (apply hK; clear hK) | (clear hK; rename ∀ st, Tri _ _ _ st _ → _ => hK; apply hK; clear hK)))))) | skip)
      | (intro β)
      | (rename ∀ st, Tri _ _ _ st _ → _ => hK; apply hK; clear hK))
    apply fin2
    exact ⟨b3, b9, j, by omega, ⟨rfl, by simp [upd, s0], by simp [upd, s3], by simp [upd, x3], by simp [upd, s8], by simpa [upd, Grows] using g7⟩, by simp [upd, s9], by simp [upd, x9], by simp [upd, s10]⟩
  have hjc := hci.1 hcj
  unfold lateR1 at hl1j
  have w5 : True := trivial
  generalize ((l.take i).flatMap fun f => lateF f r) ++ (List.range j).flatMap (late1 l[i] r.dels) = acc at *
  by_cases hq : delI l[i].id j (relI l[i] j) (relI l[i] j + l[i].dea - 1) r.dels < 0
  case neg =>
    rw [if_neg hq] at hl1j
    rw [hl1j, List.append_nil] at hnx
    repeat (first
      | (refine Tri.seq fun K hK => ?_)
      | (refine Tri.region ?_; simp [upd, hn, s0, s3, x3, s8, s9, x9, s10, w1, w2, w3, w4, w5, hcj, hwj, hq, hi])
      | (refine Tri.draw (by kernel_rfl) (by decide +kernel) ?_; simp [upd, hn, s0, s3, x3, s8, s9, x9, s10, w1, w2, w3, w4, w5, hcj, hwj, hq, hi])
      | (refine Tri.draw2 [] [0, 1, 2, 3, 4, 5, 6, 7, 8] [] [] (by kernel_rfl) (by kernel_rfl) (by decide) (by rfl) (by decide +kernel) ?_; simp [upd, hn, s0, s3, x3, s8, s9, x9, s10, w1, w2, w3, w4, w5, hcj, hwj, hq, hi])
      | (refine Tri.draw2 [] [0, 1, 2, 3, 4, 5, 6, 7, 8, 9, 10, 11, 12, 13, 14, 15, 16, 17, 18] [19, 20] [] (by kernel_rfl) (by kernel_rfl) (by decide) (by rfl) (by decide +kernel) ?_; simp [upd, hn, s0, s3, x3, s8, s9, x9, s10, w1, w2, w3, w4, w5, hcj, hwj, hq, hi])
      | (refine Tri.cond_true ?_ ?_; (focus simp [upd, hn, s0, s3, x3, s8, s9, x9, s10, w1, w2, w3, w4, w5, hcj, hwj, hq, hi]; done))
      | (refine Tri.cond_false ?_ ?_; (focus simp [upd, hn, s0, s3, x3, s8, s9, x9, s10, w1, w2, w3, w4, w5, hcj, hwj, hq, hi]; done))
      | (refine Tri.skip ?_; simp only [thenS, blockS])
      | (refine Tri.block_seq ?_)
      | (refine Tri.block_region ?_)
      | (refine Tri.block_cond ?_)
      | ((with_reducible refine CallK.pure (hrel) (Wks.refl _) ?_); simp [upd, hn, s0, s3, x3, s8, s9, x9, s10, w1, w2, w3, w4, w5, hcj, hwj, hq, hi])
      | ((with_reducible refine CallK.pure (hd1) (Wks.refl _) ?_); simp [upd, hn, s0, s3, x3, s8, s9, x9, s10, w1, w2, w3, w4, w5, hcj, hwj, hq, hi])
      | ((with_reducible refine CallK.pure (hd2) (Wks.refl _) ?_); simp [upd, hn, s0, s3, x3, s8, s9, x9, s10, w1, w2, w3, w4, w5, hcj, hwj, hq, hi])
      | (refine Tri.exit ?_; simp [upd, hn, s0, s3, x3, s8, s9, x9, s10, w1, w2, w3, w4, w5, hcj, hwj, hq, hi]; first | (rename ∀ st, Tri _ _ _ st _ → _ => hK; first | (apply hK; clear hK) | (clear hK; rename ∀ st, Tri _ _ _ st _ → _ => hK; first | (apply hK; clear hK) | (clear hK; rename ∀ st, Tri _ _ _ st _ → _ => hK; first | (apply hK; clear hK) | (clear hK; rename ∀ st, Tri _ _ _ st _ → _ => hK; first | (apply hK; clear hK) | (clear hK; rename ∀ st, Tri _ _ _ st _ → _ => hK; first | (apply hK; clear hK) | (clear hK; rename ∀ st, Tri _ _ _ st _ → _ => hK; apply hK; clear hK)))))) | skip)
      | (intro β)
      | (rename ∀ st, Tri _ _ _ st _ → _ => hK; apply hK; clear hK))
    exact ⟨m' - 1, by omega, b3, b9, j + 1, by omega, ⟨rfl, by simp [upd, s0], by simp [upd, s3], by simp [upd, x3], by simp [upd, s8], by rw [hnx]; simpa [upd, Grows] using g7⟩, by simp [upd, s9], by simp [upd, x9], by simp [upd]⟩
  rw [if_pos hq] at hl1j
  rw [hl1j] at hnx
  rcases g7 with ⟨hnil, n0, own, g7⟩ | ⟨hne, b, g7, hrw⟩
  · have hnil' : acc = [] := by simpa using hnil
    subst hnil'
    repeat (first
      | (refine Tri.seq fun K hK => ?_)
      | (refine Tri.region ?_; simp [upd, hn, s0, s3, x3, s8, s9, x9, s10, w1, w2, w3, w4, w5, hcj, hwj, hq, g7])
      | (refine Tri.draw (by kernel_rfl) (by decide +kernel) ?_; simp [upd, hn, s0, s3, x3, s8, s9, x9, s10, w1, w2, w3, w4, w5, hcj, hwj, hq, g7])
      | (refine Tri.draw2 [] [0, 1, 2, 3, 4, 5, 6, 7, 8] [] [] (by kernel_rfl) (by kernel_rfl) (by decide) (by rfl) (by decide +kernel) ?_; simp [upd, hn, s0, s3, x3, s8, s9, x9, s10, w1, w2, w3, w4, w5, hcj, hwj, hq, g7])
      | (refine Tri.draw2 [] [0, 1, 2, 3, 4, 5, 6, 7, 8, 9, 10, 11, 12, 13, 14, 15, 16, 17, 18] [19, 20] [] (by kernel_rfl) (by kernel_rfl) (by decide) (by rfl) (by decide +kernel) ?_; simp [upd, hn, s0, s3, x3, s8, s9, x9, s10, w1, w2, w3, w4, w5, hcj, hwj, hq, g7])
      | (refine Tri.cond_true ?_ ?_; (focus simp [upd, hn, s0, s3, x3, s8, s9, x9, s10, w1, w2, w3, w4, w5, hcj, hwj, hq, g7]; done))
      | (refine Tri.cond_false ?_ ?_; (focus simp [upd, hn, s0, s3, x3, s8, s9, x9, s10, w1, w2, w3, w4, w5, hcj, hwj, hq, g7]; done))
      | (refine Tri.skip ?_; simp only [thenS, blockS])
      | (refine Tri.block_seq ?_)
      | (refine Tri.block_region ?_)
      | (refine Tri.block_cond ?_)
      | ((with_reducible refine CallK.pure (hrel) (Wks.refl _) ?_); simp [upd, hn, s0, s3, x3, s8, s9, x9, s10, w1, w2, w3, w4, w5, hcj, hwj, hq, g7])
      | ((with_reducible refine CallK.pure (hd1) (Wks.refl _) ?_); simp [upd, hn, s0, s3, x3, s8, s9, x9, s10, w1, w2, w3, w4, w5, hcj, hwj, hq, g7])
      | ((with_reducible refine CallK.pure (hd2) (Wks.refl _) ?_); simp [upd, hn, s0, s3, x3, s8, s9, x9, s10, w1, w2, w3, w4, w5, hcj, hwj, hq, g7])
      | (refine Tri.exit ?_; simp [upd, hn, s0, s3, x3, s8, s9, x9, s10, w1, w2, w3, w4, w5, hcj, hwj, hq, g7]; first | (rename ∀ st, Tri _ _ _ st _ → _ => hK; first | (apply hK; clear hK) | (clear hK; rename ∀ st, Tri _ _ _ st _ → _ => hK; first | (apply hK; clear hK) | (clear hK; rename ∀ st, Tri _ _ _ st _ → _ => hK; first | (apply hK; clear hK) | (clear hK; rename ∀ st, Tri _ _ _ st _ → _ => hK; first | (apply hK; clear hK) | (clear hK; rename ∀ st, Tri _ _ _ st _ → _ => hK; first | (apply hK; clear hK) | (clear hK; rename ∀ st, Tri _ _ _ st _ → _ => hK; apply hK; clear hK)))))) | skip)
      | (intro β)
      | (rename ∀ st, Tri _ _ _ st _ → _ => hK; apply hK; clear hK))
    exact ⟨m' - 1, by omega, b3, b9, j + 1, by omega, ⟨rfl, by simp [upd, s0], by simp [upd, s3], by simp [upd, x3], by simp [upd, s8], by rw [hnx]; simp [upd, Grows]⟩, by simp [upd, s9], by simp [upd, x9], by simp [upd]⟩
  · have hb2 : (acc.length + 1) * 24 ≤ 140737488355328 := by omega
    rw [List.length_map] at hrw
    repeat (first
      | (refine Tri.seq fun K hK => ?_)
      | (refine Tri.region ?_; simp [upd, hn, s0, s3, x3, s8, s9, x9, s10, w1, w2, w3, w4, w5, hcj, hwj, hq, g7, hrw, hb2])
      | (refine Tri.draw (by kernel_rfl) (by decide +kernel) ?_; simp [upd, hn, s0, s3, x3, s8, s9, x9, s10, w1, w2, w3, w4, w5, hcj, hwj, hq, g7, hrw, hb2])
      | (refine Tri.draw2 [] [0, 1, 2, 3, 4, 5, 6, 7, 8] [] [] (by kernel_rfl) (by kernel_rfl) (by decide) (by rfl) (by decide +kernel) ?_; simp [upd, hn, s0, s3, x3, s8, s9, x9, s10, w1, w2, w3, w4, w5, hcj, hwj, hq, g7, hrw, hb2])
      | (refine Tri.draw2 [] [0, 1, 2, 3, 4, 5, 6, 7, 8, 9, 10, 11, 12, 13, 14, 15, 16, 17, 18] [19, 20] [] (by kernel_rfl) (by kernel_rfl) (by decide) (by rfl) (by decide +kernel) ?_; simp [upd, hn, s0, s3, x3, s8, s9, x9, s10, w1, w2, w3, w4, w5, hcj, hwj, hq, g7, hrw, hb2])
      | (refine Tri.cond_true ?_ ?_; (focus simp [upd, hn, s0, s3, x3, s8, s9, x9, s10, w1, w2, w3, w4, w5, hcj, hwj, hq, g7, hrw, hb2]; done))
      | (refine Tri.cond_false ?_ ?_; (focus simp [upd, hn, s0, s3, x3, s8, s9, x9, s10, w1, w2, w3, w4, w5, hcj, hwj, hq, g7, hrw, hb2]; done))
      | (refine Tri.skip ?_; simp only [thenS, blockS])
      | (refine Tri.block_seq ?_)
      | (refine Tri.block_region ?_)
      | (refine Tri.block_cond ?_)
      | ((with_reducible refine CallK.pure (hrel) (Wks.refl _) ?_); simp [upd, hn, s0, s3, x3, s8, s9, x9, s10, w1, w2, w3, w4, w5, hcj, hwj, hq, g7, hrw, hb2])
      | ((with_reducible refine CallK.pure (hd1) (Wks.refl _) ?_); simp [upd, hn, s0, s3, x3, s8, s9, x9, s10, w1, w2, w3, w4, w5, hcj, hwj, hq, g7, hrw, hb2])
      | ((with_reducible refine CallK.pure (hd2) (Wks.refl _) ?_); simp [upd, hn, s0, s3, x3, s8, s9, x9, s10, w1, w2, w3, w4, w5, hcj, hwj, hq, g7, hrw, hb2])
      | (refine Tri.exit ?_; simp [upd, hn, s0, s3, x3, s8, s9, x9, s10, w1, w2, w3, w4, w5, hcj, hwj, hq, g7, hrw, hb2]; first | (rename ∀ st, Tri _ _ _ st _ → _ => hK; first | (apply hK; clear hK) | (clear hK; rename ∀ st, Tri _ _ _ st _ → _ => hK; first | (apply hK; clear hK) | (clear hK; rename ∀ st, Tri _ _ _ st _ → _ => hK; first | (apply hK; clear hK) | (clear hK; rename ∀ st, Tri _ _ _ st _ → _ => hK; first | (apply hK; clear hK) | (clear hK; rename ∀ st, Tri _ _ _ st _ → _ => hK; first | (apply hK; clear hK) | (clear hK; rename ∀ st, Tri _ _ _ st _ → _ => hK; apply hK; clear hK)))))) | skip)
      | (intro β)
      | (rename ∀ st, Tri _ _ _ st _ → _ => hK; apply hK; clear hK))
    exact ⟨m' - 1, by omega, b3, b9, j + 1, by omega, ⟨rfl, by simp [upd, s0], by simp [upd, s3], by simp [upd, x3], by simp [upd, s8], by rw [hnx]; simp [upd, Grows]⟩, by simp [upd, s9], by simp [upd, x9], by simp [upd]⟩
end Go.Proofs.Ytngbpmiikpjiaaa
end
section
open Go Go.Vm
namespace Go.Proofs.Ytngbpmiikpjiaaa
set_option maxRecDepth 100000
set_option maxHeartbeats 4000000
set_option linter.unusedSimpArgs false
attribute [-simp] isObj C.isO
/-- An attempt for a frame that is under way. -/
def underI (f : Flo) (a : Att) : Bool := decide (f.pha ≤ a.slot) && ((a.slot - f.pha).tdiv f.per == a.frame)
def strayP (l : List Flo) (a : Att) : Bool := match l.find? (fun f => f.id == a.flow) with
  | some f => !underI f a
  | none => true
def strays (l : List Flo) (r : Rec) : List Att := r.atts.filter (strayP l)
def strayN (l : List Flo) (r : Rec) : List Att := if flowsE l = 0 ∧ check r = 0 then strays l r else []
theorem find_cases (l : List Flo) (id : Int) : (findI id l = -1 ∧ l.find? (fun f => f.id == id) = none) ∨ ∃ (k : Nat) (hk : k < l.length), findI id l = (k : Int) ∧ l.find? (fun f => f.id == id) = some l[k] := by
  rcases idxI_cases (fun f : Flo => f.id == id) l with ⟨h1, h2⟩ | ⟨k, hk, h1, h2, h3⟩
  · exact .inl ⟨h1, List.find?_eq_none.2 fun x hx => by simpa using h2 x hx⟩
  · refine .inr ⟨k, hk, h1, ?_⟩
    rw [List.find?_eq_some_iff_getElem]
    exact ⟨h2, k, hk, rfl, fun j hj => by simpa using h3 j (by omega) hj⟩
theorem check_atts {r : Rec} (h : check r = 0) : ∀ a ∈ r.atts, 0 ≤ a.slot ∧ a.slot ≤ 4096 := fun a ha => by
  have h1 := ((check_iff r).1 h).atts.1 a ha
  have h2 := check_slots h
  unfold attOk at h1
  simp only [Bool.and_eq_true] at h1
  have := h1.1
  simp only [belowB, decide_eq_true_eq] at this
  omega
theorem filter_take {α : Type} (p : α → Bool) (l : List α) (k : Nat) (hk : k < l.length) : (l.take (k + 1)).filter p = (l.take k).filter p ++ (if p l[k] = true then [l[k]] else []) := by
  rw [List.take_succ_eq_append_getElem hk, List.filter_append]
  congr 1
  cases h : p l[k] <;> simp [h]
attribute [local irreducible] Tri Does DoesB DoesR Rounds check fault flowsE arr slotsOf inB findI
def SI1 (l : List Flo) (nl : Bool) (r : Rec) (k : Nat) (st : St) : Prop := ∃ b3, st.n = 54 ∧ st.sl 0 = .c (.sl nl 6 none (l.map floC)) ∧ st.sl 3 = .c (.box 3 b3 0) ∧ st.bx 3 = some (b3, [.int .i64 r.slots, .sl r.an 8 none (r.atts.map attC), .sl r.dn 3 none (r.dels.map delC)]) ∧
  st.sl 18 = .c (.sl r.an 8 none (r.atts.map attC)) ∧ Grows st (st.sl 6) 51 66 8 (((r.atts.take k).filter (strayP l)).map attC)
theorem stray_does (l : List Flo) (nl : Bool) (r : Rec) : Does Try.prog 25 [.c (.sl nl 6 none (l.map floC)), .agg (recC r)] (.tup [.c (.sl (strayN l r).isEmpty 8 none ((strayN l r).map attC)), .c (.int .i64 (lateE l r))]) := by
  refine Does.of_body Try.func25 rfl (by kernel_rfl) rfl rfl (by simp) ?_
  intro E
  have hr := right_does l nl r
  cases hg : (flowsE l == 0 && check r == 0)
  case false =>
    have e1 : strayN l r = [] := by rw [strayN, if_neg (by simpa using hg)]
    have e2 : lateE l r = 1 := by rw [lateE, if_neg (by simpa using hg)]
    rw [e1, e2]
    rw [hg] at hr
    simp only [recC] at hr ⊢
    repeat (first
      | (refine Tri.seq fun K hK => ?_)
      | (refine Tri.region ?_; simp [upd])
      | (refine Tri.draw (by kernel_rfl) (by decide +kernel) ?_; simp [upd])
      | (refine Tri.cond_true ?_ ?_; (focus simp [upd]; done))
      | (refine Tri.cond_false ?_ ?_; (focus simp [upd]; done))
      | (refine Tri.skip ?_; simp only [thenS, blockS])
      | (refine Tri.block_seq ?_)
      | (refine Tri.block_region ?_)
      | (refine Tri.block_cond ?_)
      | ((with_reducible refine CallK.pure (hr) (Wks.refl _) ?_); simp [upd])
      | (refine Tri.exit ?_; simp [upd]; first | (rename ∀ st, Tri _ _ _ st _ → _ => hK; first | (apply hK; clear hK) | (clear hK; rename ∀ st, Tri _ _ _ st _ → _ => hK; first | (apply hK; clear hK) | (clear hK; rename ∀ st, Tri _ _ _ st _ → _ => hK; first | (apply hK; clear hK) | (clear hK; rename ∀ st, Tri _ _ _ st _ → _ => hK; first | (apply hK; clear hK) | (clear hK; rename ∀ st, Tri _ _ _ st _ → _ => hK; first | (apply hK; clear hK) | (clear hK; rename ∀ st, Tri _ _ _ st _ → _ => hK; apply hK; clear hK)))))) | skip)
      | (intro β)
      | (rename ∀ st, Tri _ _ _ st _ → _ => hK; apply hK; clear hK))
    refine Tri.ret ⟨_, rfl, ?_⟩
    simp [upd]
    exact .tup2 (.nil _ _ _ _) (.refl _)
  rw [hg] at hr
  simp only [Bool.and_eq_true, beq_iff_eq] at hg
  have e1 : strayN l r = strays l r := by rw [strayN, if_pos hg]
  have e2 : lateE l r = 0 := by rw [lateE, if_pos hg]
  rw [e1, e2]
  obtain ⟨hl16, hfa, -⟩ := flows_ok hg.1
  obtain ⟨hl1, hl2⟩ := check_lens hg.2
  have hat := check_atts hg.2
  simp only [recC] at hr ⊢
  repeat (first
    | (refine Tri.seq fun K hK => ?_)
    | (refine Tri.region ?_; simp [upd])
    | (refine Tri.draw (by kernel_rfl) (by decide +kernel) ?_; simp [upd])
    | (refine Tri.cond_true ?_ ?_; (focus simp [upd]; done))
    | (refine Tri.cond_false ?_ ?_; (focus simp [upd]; done))
    | (refine Tri.skip ?_; simp only [thenS, blockS])
    | (refine Tri.block_seq ?_)
    | (refine Tri.block_region ?_)
    | (refine Tri.block_cond ?_)
    | ((with_reducible refine CallK.pure (hr) (Wks.refl _) ?_); simp [upd])
    | (refine Tri.exit ?_; simp [upd]; first | (rename ∀ st, Tri _ _ _ st _ → _ => hK; first | (apply hK; clear hK) | (clear hK; rename ∀ st, Tri _ _ _ st _ → _ => hK; first | (apply hK; clear hK) | (clear hK; rename ∀ st, Tri _ _ _ st _ → _ => hK; first | (apply hK; clear hK) | (clear hK; rename ∀ st, Tri _ _ _ st _ → _ => hK; first | (apply hK; clear hK) | (clear hK; rename ∀ st, Tri _ _ _ st _ → _ => hK; first | (apply hK; clear hK) | (clear hK; rename ∀ st, Tri _ _ _ st _ → _ => hK; apply hK; clear hK)))))) | skip)
    | (intro β)
    | (rename ∀ st, Tri _ _ _ st _ → _ => hK; apply hK; clear hK))
  refine Tri.range 20 19 21 52 54 rfl rfl r.atts.length (SI1 l nl r) (by simp) (by omega) ?_ rfl (by simp [upd]) (by simp [upd]) ?_ ?_ ?_
  · rintro k st t v ht ⟨b3, hn, s0, s3, x3, s18, g6⟩
    rcases ht with rfl | rfl | rfl <;> exact ⟨b3, hn, by simpa [upd] using s0, by simpa [upd] using s3, x3, by simpa [upd] using s18, by simpa [upd, Grows] using g6⟩
  · exact ⟨_, rfl, by simp [upd], by simp [upd] <;> exact rfl, by simp [upd] <;> exact rfl, by simp [upd], by simp [upd, Grows]⟩
  · rintro k st hk ⟨b3, -, s0, s3, x3, s18, g6⟩ hn h20 h19
    have htk := filter_take (strayP l) r.atts k hk
    have hal : ((r.atts.take k).filter (strayP l)).length ≤ k := Nat.le_trans (List.length_filter_le ..) (List.length_take_le ..)
    have hfd := find_does l nl r.atts[k].flow (by omega)
    have hak := hat _ (List.getElem_mem hk)
    generalize (r.atts.take k).filter (strayP l) = acc at *
    rcases find_cases l r.atts[k].flow with ⟨hf1, hf2⟩ | ⟨i, hi, hf1, hf2⟩
    · have hs : strayP l r.atts[k] = true := by rw [strayP, hf2]
      rw [if_pos hs] at htk
      rw [hf1] at hfd
      have hcu : True := trivial
      rcases g6 with ⟨hnil, n0, own, g6⟩ | ⟨hne, b, g6, hrw⟩
      · have hnil' : acc = [] := by simpa using hnil
        subst hnil'
        repeat (first
          | (refine Tri.seq fun K hK => ?_)
          | (refine Tri.region ?_; simp [upd, hn, s0, s3, x3, s18, h20, h19, hk, g6, hl1])
          | (refine Tri.draw (by kernel_rfl) (by decide +kernel) ?_; simp [upd, hn, s0, s3, x3, s18, h20, h19, hk, g6, hl1])
          | (refine Tri.draw2 [] [0, 1, 2, 3, 4, 5, 6, 7, 8, 9, 10, 11] [] [] (by kernel_rfl) (by kernel_rfl) (by decide) (by rfl) (by decide +kernel) ?_; simp [upd, hn, s0, s3, x3, s18, h20, h19, hk, g6, hl1])
          | (refine Tri.cond_true ?_ ?_; (focus simp [upd, hn, s0, s3, x3, s18, h20, h19, hk, g6, hl1]; done))
          | (refine Tri.cond_false ?_ ?_; (focus simp [upd, hn, s0, s3, x3, s18, h20, h19, hk, g6, hl1]; done))
          | (refine Tri.skip ?_; simp only [thenS, blockS])
          | (refine Tri.block_seq ?_)
          | (refine Tri.block_region ?_)
          | (refine Tri.block_cond ?_)
          | ((with_reducible refine CallK.pure (hfd) (Wks.refl _) ?_); simp [upd, hn, s0, s3, x3, s18, h20, h19, hk, g6, hl1])
          | ((with_reducible refine CallK.pure (hcu) (Wks.refl _) ?_); simp [upd, hn, s0, s3, x3, s18, h20, h19, hk, g6, hl1])
          | (refine Tri.exit ?_; simp [upd, hn, s0, s3, x3, s18, h20, h19, hk, g6, hl1]; first | (rename ∀ st, Tri _ _ _ st _ → _ => hK; first | (apply hK; clear hK) | (clear hK; rename ∀ st, Tri _ _ _ st _ → _ => hK; first | (apply hK; clear hK) | (clear hK; rename ∀ st, Tri _ _ _ st _ → _ => hK; first | (apply hK; clear hK) | (clear hK; rename ∀ st, Tri _ _ _ st _ → _ => hK; first | (apply hK; clear hK) | (clear hK; rename ∀ st, Tri _ _ _ st _ → _ => hK; first | (apply hK; clear hK) | (clear hK; rename ∀ st, Tri _ _ _ st _ → _ => hK; apply hK; clear hK)))))) | skip)
          | (intro β)
          | (rename ∀ st, Tri _ _ _ st _ → _ => hK; apply hK; clear hK))
        exact ⟨b3, rfl, by simp [upd, s0], by simp [upd, s3], by simp [upd, x3], by simp [upd, s18], by rw [htk]; simp [upd, Grows]⟩
      · have hb2 : (acc.length + 1) * 64 ≤ 140737488355328 := by omega
        rw [List.length_map] at hrw
        repeat (first
          | (refine Tri.seq fun K hK => ?_)
          | (refine Tri.region ?_; simp [upd, hn, s0, s3, x3, s18, h20, h19, hk, g6, hrw, hb2, hl1])
          | (refine Tri.draw (by kernel_rfl) (by decide +kernel) ?_; simp [upd, hn, s0, s3, x3, s18, h20, h19, hk, g6, hrw, hb2, hl1])
          | (refine Tri.draw2 [] [0, 1, 2, 3, 4, 5, 6, 7, 8, 9, 10, 11] [] [] (by kernel_rfl) (by kernel_rfl) (by decide) (by rfl) (by decide +kernel) ?_; simp [upd, hn, s0, s3, x3, s18, h20, h19, hk, g6, hrw, hb2, hl1])
          | (refine Tri.cond_true ?_ ?_; (focus simp [upd, hn, s0, s3, x3, s18, h20, h19, hk, g6, hrw, hb2, hl1]; done))
          | (refine Tri.cond_false ?_ ?_; (focus simp [upd, hn, s0, s3, x3, s18, h20, h19, hk, g6, hrw, hb2, hl1]; done))
          | (refine Tri.skip ?_; simp only [thenS, blockS])
          | (refine Tri.block_seq ?_)
          | (refine Tri.block_region ?_)
          | (refine Tri.block_cond ?_)
          | ((with_reducible refine CallK.pure (hfd) (Wks.refl _) ?_); simp [upd, hn, s0, s3, x3, s18, h20, h19, hk, g6, hrw, hb2, hl1])
          | ((with_reducible refine CallK.pure (hcu) (Wks.refl _) ?_); simp [upd, hn, s0, s3, x3, s18, h20, h19, hk, g6, hrw, hb2, hl1])
          | (refine Tri.exit ?_; simp [upd, hn, s0, s3, x3, s18, h20, h19, hk, g6, hrw, hb2, hl1]; first | (rename ∀ st, Tri _ _ _ st _ → _ => hK; first | (apply hK; clear hK) | (clear hK; rename ∀ st, Tri _ _ _ st _ → _ => hK; first | (apply hK; clear hK) | (clear hK; rename ∀ st, Tri _ _ _ st _ → _ => hK; first | (apply hK; clear hK) | (clear hK; rename ∀ st, Tri _ _ _ st _ → _ => hK; first | (apply hK; clear hK) | (clear hK; rename ∀ st, Tri _ _ _ st _ → _ => hK; first | (apply hK; clear hK) | (clear hK; rename ∀ st, Tri _ _ _ st _ → _ => hK; apply hK; clear hK)))))) | skip)
          | (intro β)
          | (rename ∀ st, Tri _ _ _ st _ → _ => hK; apply hK; clear hK))
        exact ⟨b3, rfl, by simp [upd, s0], by simp [upd, s3], by simp [upd, x3], by simp [upd, s18], by rw [htk]; simp [upd, Grows]⟩
    · rw [hf1] at hfd
      have hs : strayP l r.atts[k] = !underI l[i] r.atts[k] := by rw [strayP, hf2]
      have hcu := current_does l[i] r.atts[k].slot (hfa i hi) hak.1 hak.2
      unfold curI at hcu
      unfold underI at hs
      by_cases q1 : r.atts[k].slot < l[i].pha
      · rw [if_pos q1] at hcu
        rw [decide_eq_false (by omega), Bool.false_and, Bool.not_false] at hs
        rw [if_pos hs] at htk
        rcases g6 with ⟨hnil, n0, own, g6⟩ | ⟨hne, b, g6, hrw⟩
        · have hnil' : acc = [] := by simpa using hnil
          subst hnil'
          repeat (first
            | (refine Tri.seq fun K hK => ?_)
            | (refine Tri.region ?_; simp [upd, hn, s0, s3, x3, s18, h20, h19, hk, g6, hi])
            | (refine Tri.draw (by kernel_rfl) (by decide +kernel) ?_; simp [upd, hn, s0, s3, x3, s18, h20, h19, hk, g6, hi])
            | (refine Tri.draw2 [] [0, 1, 2, 3, 4, 5, 6, 7, 8, 9, 10, 11] [] [] (by kernel_rfl) (by kernel_rfl) (by decide) (by rfl) (by decide +kernel) ?_; simp [upd, hn, s0, s3, x3, s18, h20, h19, hk, g6, hi])
            | (refine Tri.cond_true ?_ ?_; (focus simp [upd, hn, s0, s3, x3, s18, h20, h19, hk, g6, hi]; done))
            | (refine Tri.cond_false ?_ ?_; (focus simp [upd, hn, s0, s3, x3, s18, h20, h19, hk, g6, hi]; done))
            | (refine Tri.skip ?_; simp only [thenS, blockS])
            | (refine Tri.block_seq ?_)
            | (refine Tri.block_region ?_)
            | (refine Tri.block_cond ?_)
            | ((with_reducible refine CallK.pure (hfd) (Wks.refl _) ?_); simp [upd, hn, s0, s3, x3, s18, h20, h19, hk, g6, hi])
            | ((with_reducible refine CallK.pure (hcu) (Wks.refl _) ?_); simp [upd, hn, s0, s3, x3, s18, h20, h19, hk, g6, hi])
            | (refine Tri.exit ?_; simp [upd, hn, s0, s3, x3, s18, h20, h19, hk, g6, hi]; first | (rename ∀ st, Tri _ _ _ st _ → _ => hK; first | (apply hK; clear hK) | (clear hK; rename ∀ st, Tri _ _ _ st _ → _ => hK; first | (apply hK; clear hK) | (clear hK; rename ∀ st, Tri _ _ _ st _ → _ => hK; first | (apply hK; clear hK) | (clear hK; rename ∀ st, Tri _ _ _ st _ → _ => hK; first | (apply hK; clear hK) | (clear hK; rename ∀ st, Tri _ _ _ st _ → _ => hK; first | (apply hK; clear hK) | (clear hK; rename ∀ st, Tri _ _ _ st _ → _ => hK; apply hK; clear hK)))))) | skip)
            | (intro β)
            | (rename ∀ st, Tri _ _ _ st _ → _ => hK; apply hK; clear hK))
          exact ⟨b3, rfl, by simp [upd, s0], by simp [upd, s3], by simp [upd, x3], by simp [upd, s18], by rw [htk]; simp [upd, Grows]⟩
        · have hb2 : (acc.length + 1) * 64 ≤ 140737488355328 := by omega
          rw [List.length_map] at hrw
          repeat (first
            | (refine Tri.seq fun K hK => ?_)
            | (refine Tri.region ?_; simp [upd, hn, s0, s3, x3, s18, h20, h19, hk, g6, hrw, hb2, hi])
            | (refine Tri.draw (by kernel_rfl) (by decide +kernel) ?_; simp [upd, hn, s0, s3, x3, s18, h20, h19, hk, g6, hrw, hb2, hi])
            | (refine Tri.draw2 [] [0, 1, 2, 3, 4, 5, 6, 7, 8, 9, 10, 11] [] [] (by kernel_rfl) (by kernel_rfl) (by decide) (by rfl) (by decide +kernel) ?_; simp [upd, hn, s0, s3, x3, s18, h20, h19, hk, g6, hrw, hb2, hi])
            | (refine Tri.cond_true ?_ ?_; (focus simp [upd, hn, s0, s3, x3, s18, h20, h19, hk, g6, hrw, hb2, hi]; done))
            | (refine Tri.cond_false ?_ ?_; (focus simp [upd, hn, s0, s3, x3, s18, h20, h19, hk, g6, hrw, hb2, hi]; done))
            | (refine Tri.skip ?_; simp only [thenS, blockS])
            | (refine Tri.block_seq ?_)
            | (refine Tri.block_region ?_)
            | (refine Tri.block_cond ?_)
            | ((with_reducible refine CallK.pure (hfd) (Wks.refl _) ?_); simp [upd, hn, s0, s3, x3, s18, h20, h19, hk, g6, hrw, hb2, hi])
            | ((with_reducible refine CallK.pure (hcu) (Wks.refl _) ?_); simp [upd, hn, s0, s3, x3, s18, h20, h19, hk, g6, hrw, hb2, hi])
            | (refine Tri.exit ?_; simp [upd, hn, s0, s3, x3, s18, h20, h19, hk, g6, hrw, hb2, hi]; first | (rename ∀ st, Tri _ _ _ st _ → _ => hK; first | (apply hK; clear hK) | (clear hK; rename ∀ st, Tri _ _ _ st _ → _ => hK; first | (apply hK; clear hK) | (clear hK; rename ∀ st, Tri _ _ _ st _ → _ => hK; first | (apply hK; clear hK) | (clear hK; rename ∀ st, Tri _ _ _ st _ → _ => hK; first | (apply hK; clear hK) | (clear hK; rename ∀ st, Tri _ _ _ st _ → _ => hK; first | (apply hK; clear hK) | (clear hK; rename ∀ st, Tri _ _ _ st _ → _ => hK; apply hK; clear hK)))))) | skip)
            | (intro β)
            | (rename ∀ st, Tri _ _ _ st _ → _ => hK; apply hK; clear hK))
          exact ⟨b3, rfl, by simp [upd, s0], by simp [upd, s3], by simp [upd, x3], by simp [upd, s18], by rw [htk]; simp [upd, Grows]⟩
      · rw [if_neg q1] at hcu
        rw [decide_eq_true (by omega), Bool.true_and] at hs
        cases q2 : ((r.atts[k].slot - l[i].pha).tdiv l[i].per == r.atts[k].frame)
        · rw [q2, Bool.not_false] at hs
          rw [if_pos hs] at htk
          rcases g6 with ⟨hnil, n0, own, g6⟩ | ⟨hne, b, g6, hrw⟩
          · have hnil' : acc = [] := by simpa using hnil
            subst hnil'
            repeat (first
              | (refine Tri.seq fun K hK => ?_)
              | (refine Tri.region ?_; simp [upd, hn, s0, s3, x3, s18, h20, h19, hk, g6, hi, q2])
              | (refine Tri.draw (by kernel_rfl) (by decide +kernel) ?_; simp [upd, hn, s0, s3, x3, s18, h20, h19, hk, g6, hi, q2])
              | (refine Tri.draw2 [] [0, 1, 2, 3, 4, 5, 6, 7, 8, 9, 10, 11] [] [] (by kernel_rfl) (by kernel_rfl) (by decide) (by rfl) (by decide +kernel) ?_; simp [upd, hn, s0, s3, x3, s18, h20, h19, hk, g6, hi, q2])
              | (refine Tri.cond_true ?_ ?_; (focus simp [upd, hn, s0, s3, x3, s18, h20, h19, hk, g6, hi, q2]; done))
              | (refine Tri.cond_false ?_ ?_; (focus simp [upd, hn, s0, s3, x3, s18, h20, h19, hk, g6, hi, q2]; done))
              | (refine Tri.skip ?_; simp only [thenS, blockS])
              | (refine Tri.block_seq ?_)
              | (refine Tri.block_region ?_)
              | (refine Tri.block_cond ?_)
              | ((with_reducible refine CallK.pure (hfd) (Wks.refl _) ?_); simp [upd, hn, s0, s3, x3, s18, h20, h19, hk, g6, hi, q2])
              | ((with_reducible refine CallK.pure (hcu) (Wks.refl _) ?_); simp [upd, hn, s0, s3, x3, s18, h20, h19, hk, g6, hi, q2])
              | (refine Tri.exit ?_; simp [upd, hn, s0, s3, x3, s18, h20, h19, hk, g6, hi, q2]; first | (rename ∀ st, Tri _ _ _ st _ → _ => hK; first | (apply hK; clear hK) | (clear hK; rename ∀ st, Tri _ _ _ st _ → _ => hK; first | (apply hK; clear hK) | (clear hK; rename ∀ st, Tri _ _ _ st _ → _ => hK; first | (apply hK; clear hK) | (clear hK; rename ∀ st, Tri _ _ _ st _ → _ => hK; first | (apply hK; clear hK) | (clear hK; rename ∀ st, Tri _ _ _ st _ → _ => hK; first | (apply hK; clear hK) | (clear hK; rename ∀ st, Tri _ _ _ st _ → _ => hK; apply hK; clear hK)))))) | skip)
              | (intro β)
              | (rename ∀ st, Tri _ _ _ st _ → _ => hK; apply hK; clear hK))
            exact ⟨b3, rfl, by simp [upd, s0], by simp [upd, s3], by simp [upd, x3], by simp [upd, s18], by rw [htk]; simp [upd, Grows]⟩
          · have hb2 : (acc.length + 1) * 64 ≤ 140737488355328 := by omega
            rw [List.length_map] at hrw
            repeat (first
              | (refine Tri.seq fun K hK => ?_)
              | (refine Tri.region ?_; simp [upd, hn, s0, s3, x3, s18, h20, h19, hk, g6, hrw, hb2, hi, q2])
              | (refine Tri.draw (by kernel_rfl) (by decide +kernel) ?_; simp [upd, hn, s0, s3, x3, s18, h20, h19, hk, g6, hrw, hb2, hi, q2])
              | (refine Tri.draw2 [] [0, 1, 2, 3, 4, 5, 6, 7, 8, 9, 10, 11] [] [] (by kernel_rfl) (by kernel_rfl) (by decide) (by rfl) (by decide +kernel) ?_; simp [upd, hn, s0, s3, x3, s18, h20, h19, hk, g6, hrw, hb2, hi, q2])
              | (refine Tri.cond_true ?_ ?_; (focus simp [upd, hn, s0, s3, x3, s18, h20, h19, hk, g6, hrw, hb2, hi, q2]; done))
              | (refine Tri.cond_false ?_ ?_; (focus simp [upd, hn, s0, s3, x3, s18, h20, h19, hk, g6, hrw, hb2, hi, q2]; done))
              | (refine Tri.skip ?_; simp only [thenS, blockS])
              | (refine Tri.block_seq ?_)
              | (refine Tri.block_region ?_)
              | (refine Tri.block_cond ?_)
              | ((with_reducible refine CallK.pure (hfd) (Wks.refl _) ?_); simp [upd, hn, s0, s3, x3, s18, h20, h19, hk, g6, hrw, hb2, hi, q2])
              | ((with_reducible refine CallK.pure (hcu) (Wks.refl _) ?_); simp [upd, hn, s0, s3, x3, s18, h20, h19, hk, g6, hrw, hb2, hi, q2])
              | (refine Tri.exit ?_; simp [upd, hn, s0, s3, x3, s18, h20, h19, hk, g6, hrw, hb2, hi, q2]; first | (rename ∀ st, Tri _ _ _ st _ → _ => hK; first | (apply hK; clear hK) | (clear hK; rename ∀ st, Tri _ _ _ st _ → _ => hK; first | (apply hK; clear hK) | (clear hK; rename ∀ st, Tri _ _ _ st _ → _ => hK; first | (apply hK; clear hK) | (clear hK; rename ∀ st, Tri _ _ _ st _ → _ => hK; first | (apply hK; clear hK) | (clear hK; rename ∀ st, Tri _ _ _ st _ → _ => hK; first | (apply hK; clear hK) | (clear hK; rename ∀ st, Tri _ _ _ st _ → _ => hK; apply hK; clear hK)))))) | skip)
              | (intro β)
              | (rename ∀ st, Tri _ _ _ st _ → _ => hK; apply hK; clear hK))
            exact ⟨b3, rfl, by simp [upd, s0], by simp [upd, s3], by simp [upd, x3], by simp [upd, s18], by rw [htk]; simp [upd, Grows]⟩
        · rw [q2, Bool.not_true] at hs
          rw [if_neg (by simp [hs]), List.append_nil] at htk
          repeat (first
            | (refine Tri.seq fun K hK => ?_)
            | (refine Tri.region ?_; simp [upd, hn, s0, s3, x3, s18, h20, h19, hk, hi, q2])
            | (refine Tri.draw (by kernel_rfl) (by decide +kernel) ?_; simp [upd, hn, s0, s3, x3, s18, h20, h19, hk, hi, q2])
            | (refine Tri.draw2 [] [0, 1, 2, 3, 4, 5, 6, 7, 8, 9, 10, 11] [] [] (by kernel_rfl) (by kernel_rfl) (by decide) (by rfl) (by decide +kernel) ?_; simp [upd, hn, s0, s3, x3, s18, h20, h19, hk, hi, q2])
            | (refine Tri.cond_true ?_ ?_; (focus simp [upd, hn, s0, s3, x3, s18, h20, h19, hk, hi, q2]; done))
            | (refine Tri.cond_false ?_ ?_; (focus simp [upd, hn, s0, s3, x3, s18, h20, h19, hk, hi, q2]; done))
            | (refine Tri.skip ?_; simp only [thenS, blockS])
            | (refine Tri.block_seq ?_)
            | (refine Tri.block_region ?_)
            | (refine Tri.block_cond ?_)
            | ((with_reducible refine CallK.pure (hfd) (Wks.refl _) ?_); simp [upd, hn, s0, s3, x3, s18, h20, h19, hk, hi, q2])
            | ((with_reducible refine CallK.pure (hcu) (Wks.refl _) ?_); simp [upd, hn, s0, s3, x3, s18, h20, h19, hk, hi, q2])
            | (refine Tri.exit ?_; simp [upd, hn, s0, s3, x3, s18, h20, h19, hk, hi, q2]; first | (rename ∀ st, Tri _ _ _ st _ → _ => hK; first | (apply hK; clear hK) | (clear hK; rename ∀ st, Tri _ _ _ st _ → _ => hK; first | (apply hK; clear hK) | (clear hK; rename ∀ st, Tri _ _ _ st _ → _ => hK; first | (apply hK; clear hK) | (clear hK; rename ∀ st, Tri _ _ _ st _ → _ => hK; first | (apply hK; clear hK) | (clear hK; rename ∀ st, Tri _ _ _ st _ → _ => hK; first | (apply hK; clear hK) | (clear hK; rename ∀ st, Tri _ _ _ st _ → _ => hK; apply hK; clear hK)))))) | skip)
            | (intro β)
            | (rename ∀ st, Tri _ _ _ st _ → _ => hK; apply hK; clear hK))
          exact ⟨b3, rfl, by simp [upd, s0], by simp [upd, s3], by simp [upd, x3], by simp [upd, s18], by rw [htk]; simpa [upd, Grows] using g6⟩
  · rintro st ⟨b3, -, s0, s3, x3, s18, g6⟩ hn
    rw [List.take_length] at g6
    rename ∀ st, Tri _ _ _ st _ → _ => hK
    apply hK
    have hw := g6.wk
    change Wk _ (.c (.sl ((strays l r).map attC).isEmpty 8 none ((strays l r).map attC))) at hw
    repeat (first
      | (refine Tri.seq fun K hK => ?_)
      | (refine Tri.region ?_; simp [upd, hn])
      | (refine Tri.draw (by kernel_rfl) (by decide +kernel) ?_; simp [upd, hn])
      | (refine Tri.cond_true ?_ ?_; (focus simp [upd, hn]; done))
      | (refine Tri.cond_false ?_ ?_; (focus simp [upd, hn]; done))
      | (refine Tri.skip ?_; simp only [thenS, blockS])
      | (refine Tri.block_seq ?_)
      | (refine Tri.block_region ?_)
      | (refine Tri.block_cond ?_)
      | (refine Tri.exit ?_; simp [upd, hn]; first | (rename ∀ st, Tri _ _ _ st _ → _ => hK; first | (apply hK; clear hK) | (clear hK; rename ∀ st, Tri _ _ _ st _ → _ => hK; first | (apply hK; clear hK) | (clear hK; rename ∀ st, Tri _ _ _ st _ → _ => hK; first | (apply hK; clear hK) | (clear hK; rename ∀ st, Tri _ _ _ st _ → _ => hK; first | (apply hK; clear hK) | (clear hK; rename ∀ st, Tri _ _ _ st _ → _ => hK; first | (apply hK; clear hK) | (clear hK; rename ∀ st, Tri _ _ _ st _ → _ => hK; apply hK; clear hK)))))) | skip)
      | (intro β)
      | (rename ∀ st, Tri _ _ _ st _ → _ => hK; apply hK; clear hK))
    refine Tri.ret ⟨_, rfl, ?_⟩
    simp [upd]
    refine .tup2 ?_ (.refl _)
    simpa using hw
def SI2 (l : List Flo) (nl : Bool) (r : Rec) (m : Nat) (st : St) : Prop := ∃ b3 k, m + k = r.atts.length ∧ st.n = 62 ∧ st.sl 0 = .c (.sl nl 6 none (l.map floC)) ∧ st.sl 3 = .c (.box 3 b3 0) ∧ st.bx 3 = some (b3, [.int .i64 r.slots, .sl r.an 8 none (r.atts.map attC), .sl r.dn 3 none (r.dels.map delC)]) ∧
  st.sl 8 = .c (.int .i64 (k : Nat)) ∧ Grows st (st.sl 7) 60 66 8 (((r.atts.take k).filter (strayP l)).map attC)
theorem strayR_does (l : List Flo) (nl : Bool) (r : Rec) : Does Try.prog 26 [.c (.sl nl 6 none (l.map floC)), .agg (recC r)] (.tup [.c (.sl (strayN l r).isEmpty 8 none ((strayN l r).map attC)), .c (.int .i64 (lateE l r))]) := by
  refine Does.of_body Try.func26 rfl (by kernel_rfl) rfl rfl (by simp) ?_
  intro E
  have hr := checkM_does l nl r
  by_cases hg : flowsE l = 0 ∧ check r = 0
  case neg =>
    have e1 : strayN l r = [] := by rw [strayN, if_neg hg]
    have e2 : lateE l r = 1 := by rw [lateE, if_neg hg]
    rw [e1, e2]
    rw [e2] at hr
    simp only [recC] at hr ⊢
    repeat (first
      | (refine Tri.seq fun K hK => ?_)
      | (refine Tri.region ?_; simp [upd, bne])
      | (refine Tri.draw (by kernel_rfl) (by decide +kernel) ?_; simp [upd, bne])
      | (refine Tri.cond_true ?_ ?_; (focus simp [upd, bne]; done))
      | (refine Tri.cond_false ?_ ?_; (focus simp [upd, bne]; done))
      | (refine Tri.skip ?_; simp only [thenS, blockS])
      | (refine Tri.block_seq ?_)
      | (refine Tri.block_region ?_)
      | (refine Tri.block_cond ?_)
      | ((with_reducible refine CallK.pure (hr) (Wks.refl _) ?_); simp [upd, bne])
      | (refine Tri.exit ?_; simp [upd, bne]; first | (rename ∀ st, Tri _ _ _ st _ → _ => hK; first | (apply hK; clear hK) | (clear hK; rename ∀ st, Tri _ _ _ st _ → _ => hK; first | (apply hK; clear hK) | (clear hK; rename ∀ st, Tri _ _ _ st _ → _ => hK; first | (apply hK; clear hK) | (clear hK; rename ∀ st, Tri _ _ _ st _ → _ => hK; first | (apply hK; clear hK) | (clear hK; rename ∀ st, Tri _ _ _ st _ → _ => hK; first | (apply hK; clear hK) | (clear hK; rename ∀ st, Tri _ _ _ st _ → _ => hK; apply hK; clear hK)))))) | skip)
      | (intro β)
      | (rename ∀ st, Tri _ _ _ st _ → _ => hK; apply hK; clear hK))
    refine Tri.ret ⟨_, rfl, ?_⟩
    simp [upd]
    exact .tup2 (.nil _ _ _ _) (.refl _)
  have e1 : strayN l r = strays l r := by rw [strayN, if_pos hg]
  have e2 : lateE l r = 0 := by rw [lateE, if_pos hg]
  rw [e1, e2]
  rw [e2] at hr
  obtain ⟨hl16, hfa, -⟩ := flows_ok hg.1
  obtain ⟨hl1, hl2⟩ := check_lens hg.2
  have hat := check_atts hg.2
  simp only [recC] at hr ⊢
  repeat (first
    | (refine Tri.seq fun K hK => ?_)
    | (refine Tri.region ?_; simp [upd, bne])
    | (refine Tri.draw (by kernel_rfl) (by decide +kernel) ?_; simp [upd, bne])
    | (refine Tri.cond_true ?_ ?_; (focus simp [upd, bne]; done))
    | (refine Tri.cond_false ?_ ?_; (focus simp [upd, bne]; done))
    | (refine Tri.skip ?_; simp only [thenS, blockS])
    | (refine Tri.block_seq ?_)
    | (refine Tri.block_region ?_)
    | (refine Tri.block_cond ?_)
    | ((with_reducible refine CallK.pure (hr) (Wks.refl _) ?_); simp [upd, bne])
    | (refine Tri.exit ?_; simp [upd, bne]; first | (rename ∀ st, Tri _ _ _ st _ → _ => hK; first | (apply hK; clear hK) | (clear hK; rename ∀ st, Tri _ _ _ st _ → _ => hK; first | (apply hK; clear hK) | (clear hK; rename ∀ st, Tri _ _ _ st _ → _ => hK; first | (apply hK; clear hK) | (clear hK; rename ∀ st, Tri _ _ _ st _ → _ => hK; first | (apply hK; clear hK) | (clear hK; rename ∀ st, Tri _ _ _ st _ → _ => hK; first | (apply hK; clear hK) | (clear hK; rename ∀ st, Tri _ _ _ st _ → _ => hK; apply hK; clear hK)))))) | skip)
    | (intro β)
    | (rename ∀ st, Tri _ _ _ st _ → _ => hK; apply hK; clear hK))
  rename ∀ st, Tri _ _ _ st _ → _ => hK
  have fin := fun (st : St) (h : SI2 l nl r 0 st) => hK st ?tail
  case tail =>
    obtain ⟨b3, k, hk, hn, s0, s3, x3, s8, g6⟩ := h
    rw [List.take_of_length_le (by omega)] at g6
    have hw := g6.wk
    change Wk _ (.c (.sl ((strays l r).map attC).isEmpty 8 none ((strays l r).map attC))) at hw
    repeat (first
      | (refine Tri.seq fun K hK => ?_)
      | (refine Tri.region ?_; simp [upd, hn])
      | (refine Tri.draw (by kernel_rfl) (by decide +kernel) ?_; simp [upd, hn])
      | (refine Tri.cond_true ?_ ?_; (focus simp [upd, hn]; done))
      | (refine Tri.cond_false ?_ ?_; (focus simp [upd, hn]; done))
      | (refine Tri.skip ?_; simp only [thenS, blockS])
      | (refine Tri.block_seq ?_)
      | (refine Tri.block_region ?_)
      | (refine Tri.block_cond ?_)
      | (refine Tri.exit ?_; simp [upd, hn]; first | (rename ∀ st, Tri _ _ _ st _ → _ => hK; first | (apply hK; clear hK) | (clear hK; rename ∀ st, Tri _ _ _ st _ → _ => hK; first | (apply hK; clear hK) | (clear hK; rename ∀ st, Tri _ _ _ st _ → _ => hK; first | (apply hK; clear hK) | (clear hK; rename ∀ st, Tri _ _ _ st _ → _ => hK; first | (apply hK; clear hK) | (clear hK; rename ∀ st, Tri _ _ _ st _ → _ => hK; first | (apply hK; clear hK) | (clear hK; rename ∀ st, Tri _ _ _ st _ → _ => hK; apply hK; clear hK)))))) | skip)
      | (intro β)
      | (rename ∀ st, Tri _ _ _ st _ → _ => hK; apply hK; clear hK))
    refine Tri.ret ⟨_, rfl, ?_⟩
    simp [upd]
    refine .tup2 ?_ (.refl _)
    simpa using hw
  clear hK
  refine Tri.block (Tri.loop (SI2 l nl r) r.atts.length ⟨_, 0, rfl, rfl, by simp [upd], by simp [upd] <;> exact rfl, by simp [upd] <;> exact rfl, by simp [upd], by simp [upd, Grows]⟩ ?_)
  rintro m st ⟨b3, k, hm, hn, s0, s3, x3, s8, g6⟩
  by_cases hk : k < r.atts.length
  case neg =>
    repeat (first
      | (refine Tri.seq fun K hK => ?_)
      | (refine Tri.region ?_; simp [upd, hn, s0, s3, x3, s8, hk])
      | (refine Tri.draw (by kernel_rfl) (by decide +kernel) ?_; simp [upd, hn, s0, s3, x3, s8, hk])
      | (refine Tri.cond_true ?_ ?_; (focus simp [upd, hn, s0, s3, x3, s8, hk]; done))
      | (refine Tri.cond_false ?_ ?_; (focus simp [upd, hn, s0, s3, x3, s8, hk]; done))
      | (refine Tri.skip ?_; simp only [thenS, blockS])
      | (refine Tri.block_seq ?_)
      | (refine Tri.block_region ?_)
      | (refine Tri.block_cond ?_)
      | (refine Tri.exit ?_; simp [upd, hn, s0, s3, x3, s8, hk]; first | (rename ∀ st, Tri _ _ _ st _ → _ => hK; first | (apply hK; clear hK) | (clear hK; rename ∀ st, Tri _ _ _ st _ → _ => hK; first | (apply hK; clear hK) | (clear hK; rename ∀ st, Tri _ _ _ st _ → _ => hK; first | (apply hK; clear hK) | (clear hK; rename ∀ st, Tri _ _ _ st _ → _ => hK; first | (apply hK; clear hK) | (clear hK; rename ∀ st, Tri _ _ _ st _ → _ => hK; first | (apply hK; clear hK) | (clear hK; rename ∀ st, Tri _ _ _ st _ → _ => hK; apply hK; clear hK)))))) | skip)
      | (intro β)
      | (rename ∀ st, Tri _ _ _ st _ → _ => hK; apply hK; clear hK))
    apply fin
    exact ⟨b3, k, by omega, rfl, by simp [upd, s0], by simp [upd, s3], by simp [upd, x3], by simp [upd, s8], by simpa [upd, Grows] using g6⟩
  have hwk : IntKind.i64.wrap ((k : Int) + 1) = (k : Int) + 1 := wrap_i64 (by omega) (by omega)
  have htk := filter_take (strayP l) r.atts k hk
  have hal : ((r.atts.take k).filter (strayP l)).length ≤ k := Nat.le_trans (List.length_filter_le ..) (List.length_take_le ..)
  have hfd := findR_does l nl r.atts[k].flow (by omega)
  have hak := hat _ (List.getElem_mem hk)
  generalize (r.atts.take k).filter (strayP l) = acc at *
  rcases find_cases l r.atts[k].flow with ⟨hf1, hf2⟩ | ⟨i, hi, hf1, hf2⟩
  · have hs : strayP l r.atts[k] = true := by rw [strayP, hf2]
    rw [if_pos hs] at htk
    rw [hf1] at hfd
    have hcu : True := trivial
    rcases g6 with ⟨hnil, n0, own, g6⟩ | ⟨hne, b, g6, hrw⟩
    · have hnil' : acc = [] := by simpa using hnil
      subst hnil'
      repeat (first
        | (refine Tri.seq fun K hK => ?_)
        | (refine Tri.region ?_; simp [upd, hn, s0, s3, x3, s8, hk, hwk, g6, hl1])
        | (refine Tri.draw (by kernel_rfl) (by decide +kernel) ?_; simp [upd, hn, s0, s3, x3, s8, hk, hwk, g6, hl1])
        | (refine Tri.draw2 [] [0, 1, 2, 3, 4, 5, 6, 7, 8, 9, 10, 11] [] [] (by kernel_rfl) (by kernel_rfl) (by decide) (by rfl) (by decide +kernel) ?_; simp [upd, hn, s0, s3, x3, s8, hk, hwk, g6, hl1])
        | (refine Tri.cond_true ?_ ?_; (focus simp [upd, hn, s0, s3, x3, s8, hk, hwk, g6, hl1]; done))
        | (refine Tri.cond_false ?_ ?_; (focus simp [upd, hn, s0, s3, x3, s8, hk, hwk, g6, hl1]; done))
        | (refine Tri.skip ?_; simp only [thenS, blockS])
        | (refine Tri.block_seq ?_)
        | (refine Tri.block_region ?_)
        | (refine Tri.block_cond ?_)
        | ((with_reducible refine CallK.pure (hfd) (Wks.refl _) ?_); simp [upd, hn, s0, s3, x3, s8, hk, hwk, g6, hl1])
        | ((with_reducible refine CallK.pure (hcu) (Wks.refl _) ?_); simp [upd, hn, s0, s3, x3, s8, hk, hwk, g6, hl1])
        | (refine Tri.exit ?_; simp [upd, hn, s0, s3, x3, s8, hk, hwk, g6, hl1]; first | (rename ∀ st, Tri _ _ _ st _ → _ => hK; first | (apply hK; clear hK) | (clear hK; rename ∀ st, Tri _ _ _ st _ → _ => hK; first | (apply hK; clear hK) | (clear hK; rename ∀ st, Tri _ _ _ st _ → _ => hK; first | (apply hK; clear hK) | (clear hK; rename ∀ st, Tri _ _ _ st _ → _ => hK; first | (apply hK; clear hK) | (clear hK; rename ∀ st, Tri _ _ _ st _ → _ => hK; first | (apply hK; clear hK) | (clear hK; rename ∀ st, Tri _ _ _ st _ → _ => hK; apply hK; clear hK)))))) | skip)
        | (intro β)
        | (rename ∀ st, Tri _ _ _ st _ → _ => hK; apply hK; clear hK))
      exact ⟨m - 1, by omega, b3, k + 1, by omega, rfl, by simp [upd, s0], by simp [upd, s3], by simp [upd, x3], by simp [upd], by rw [htk]; simp [upd, Grows]⟩
    · have hb2 : (acc.length + 1) * 64 ≤ 140737488355328 := by omega
      rw [List.length_map] at hrw
      repeat (first
        | (refine Tri.seq fun K hK => ?_)
        | (refine Tri.region ?_; simp [upd, hn, s0, s3, x3, s8, hk, hwk, g6, hrw, hb2, hl1])
        | (refine Tri.draw (by kernel_rfl) (by decide +kernel) ?_; simp [upd, hn, s0, s3, x3, s8, hk, hwk, g6, hrw, hb2, hl1])
        | (refine Tri.draw2 [] [0, 1, 2, 3, 4, 5, 6, 7, 8, 9, 10, 11] [] [] (by kernel_rfl) (by kernel_rfl) (by decide) (by rfl) (by decide +kernel) ?_; simp [upd, hn, s0, s3, x3, s8, hk, hwk, g6, hrw, hb2, hl1])
        | (refine Tri.cond_true ?_ ?_; (focus simp [upd, hn, s0, s3, x3, s8, hk, hwk, g6, hrw, hb2, hl1]; done))
        | (refine Tri.cond_false ?_ ?_; (focus simp [upd, hn, s0, s3, x3, s8, hk, hwk, g6, hrw, hb2, hl1]; done))
        | (refine Tri.skip ?_; simp only [thenS, blockS])
        | (refine Tri.block_seq ?_)
        | (refine Tri.block_region ?_)
        | (refine Tri.block_cond ?_)
        | ((with_reducible refine CallK.pure (hfd) (Wks.refl _) ?_); simp [upd, hn, s0, s3, x3, s8, hk, hwk, g6, hrw, hb2, hl1])
        | ((with_reducible refine CallK.pure (hcu) (Wks.refl _) ?_); simp [upd, hn, s0, s3, x3, s8, hk, hwk, g6, hrw, hb2, hl1])
        | (refine Tri.exit ?_; simp [upd, hn, s0, s3, x3, s8, hk, hwk, g6, hrw, hb2, hl1]; first | (rename ∀ st, Tri _ _ _ st _ → _ => hK; first | (apply hK; clear hK) | (clear hK; rename ∀ st, Tri _ _ _ st _ → _ => hK; first | (apply hK; clear hK) | (clear hK; rename ∀ st, Tri _ _ _ st _ → _ => hK; first | (apply hK; clear hK) | (clear hK; rename ∀ st, Tri _ _ _ st _ → _ => hK; first | (apply hK; clear hK) | (clear hK; rename ∀ st, Tri _ _ _ st _ → _ => hK; first | (apply hK; clear hK) | (clear hK; rename ∀ st, Tri _ _ _ st _ → _ => hK; apply hK; clear hK)))))) | skip)
        | (intro β)
        | (rename ∀ st, Tri _ _ _ st _ → _ => hK; apply hK; clear hK))
      exact ⟨m - 1, by omega, b3, k + 1, by omega, rfl, by simp [upd, s0], by simp [upd, s3], by simp [upd, x3], by simp [upd], by rw [htk]; simp [upd, Grows]⟩
  · rw [hf1] at hfd
    have hs : strayP l r.atts[k] = !underI l[i] r.atts[k] := by rw [strayP, hf2]
    have hcu := currentR_does l[i] r.atts[k].slot (hfa i hi) hak.1 hak.2
    unfold curI at hcu
    unfold underI at hs
    by_cases q1 : r.atts[k].slot < l[i].pha
    · rw [if_pos q1] at hcu
      rw [decide_eq_false (by omega), Bool.false_and, Bool.not_false] at hs
      rw [if_pos hs] at htk
      rcases g6 with ⟨hnil, n0, own, g6⟩ | ⟨hne, b, g6, hrw⟩
      · have hnil' : acc = [] := by simpa using hnil
        subst hnil'
        repeat (first
          | (refine Tri.seq fun K hK => ?_)
          | (refine Tri.region ?_; simp [upd, hn, s0, s3, x3, s8, hk, hwk, g6, hi])
          | (refine Tri.draw (by kernel_rfl) (by decide +kernel) ?_; simp [upd, hn, s0, s3, x3, s8, hk, hwk, g6, hi])
          | (refine Tri.draw2 [] [0, 1, 2, 3, 4, 5, 6, 7, 8, 9, 10, 11] [] [] (by kernel_rfl) (by kernel_rfl) (by decide) (by rfl) (by decide +kernel) ?_; simp [upd, hn, s0, s3, x3, s8, hk, hwk, g6, hi])
          | (refine Tri.cond_true ?_ ?_; (focus simp [upd, hn, s0, s3, x3, s8, hk, hwk, g6, hi]; done))
          | (refine Tri.cond_false ?_ ?_; (focus simp [upd, hn, s0, s3, x3, s8, hk, hwk, g6, hi]; done))
          | (refine Tri.skip ?_; simp only [thenS, blockS])
          | (refine Tri.block_seq ?_)
          | (refine Tri.block_region ?_)
          | (refine Tri.block_cond ?_)
          | ((with_reducible refine CallK.pure (hfd) (Wks.refl _) ?_); simp [upd, hn, s0, s3, x3, s8, hk, hwk, g6, hi])
          | ((with_reducible refine CallK.pure (hcu) (Wks.refl _) ?_); simp [upd, hn, s0, s3, x3, s8, hk, hwk, g6, hi])
          | (refine Tri.exit ?_; simp [upd, hn, s0, s3, x3, s8, hk, hwk, g6, hi]; first | (rename ∀ st, Tri _ _ _ st _ → _ => hK; first | (apply hK; clear hK) | (clear hK; rename ∀ st, Tri _ _ _ st _ → _ => hK; first | (apply hK; clear hK) | (clear hK; rename ∀ st, Tri _ _ _ st _ → _ => hK; first | (apply hK; clear hK) | (clear hK; rename ∀ st, Tri _ _ _ st _ → _ => hK; first | (apply hK; clear hK) | (clear hK; rename ∀ st, Tri _ _ _ st _ → _ => hK; first | (apply hK; clear hK) | (clear hK; rename ∀ st, Tri _ _ _ st _ → _ => hK; apply hK; clear hK)))))) | skip)
          | (intro β)
          | (rename ∀ st, Tri _ _ _ st _ → _ => hK; apply hK; clear hK))
        exact ⟨m - 1, by omega, b3, k + 1, by omega, rfl, by simp [upd, s0], by simp [upd, s3], by simp [upd, x3], by simp [upd], by rw [htk]; simp [upd, Grows]⟩
      · have hb2 : (acc.length + 1) * 64 ≤ 140737488355328 := by omega
        rw [List.length_map] at hrw
        repeat (first
          | (refine Tri.seq fun K hK => ?_)
          | (refine Tri.region ?_; simp [upd, hn, s0, s3, x3, s8, hk, hwk, g6, hrw, hb2, hi])
          | (refine Tri.draw (by kernel_rfl) (by decide +kernel) ?_; simp [upd, hn, s0, s3, x3, s8, hk, hwk, g6, hrw, hb2, hi])
          | (refine Tri.draw2 [] [0, 1, 2, 3, 4, 5, 6, 7, 8, 9, 10, 11] [] [] (by kernel_rfl) (by kernel_rfl) (by decide) (by rfl) (by decide +kernel) ?_; simp [upd, hn, s0, s3, x3, s8, hk, hwk, g6, hrw, hb2, hi])
          | (refine Tri.cond_true ?_ ?_; (focus simp [upd, hn, s0, s3, x3, s8, hk, hwk, g6, hrw, hb2, hi]; done))
          | (refine Tri.cond_false ?_ ?_; (focus simp [upd, hn, s0, s3, x3, s8, hk, hwk, g6, hrw, hb2, hi]; done))
          | (refine Tri.skip ?_; simp only [thenS, blockS])
          | (refine Tri.block_seq ?_)
          | (refine Tri.block_region ?_)
          | (refine Tri.block_cond ?_)
          | ((with_reducible refine CallK.pure (hfd) (Wks.refl _) ?_); simp [upd, hn, s0, s3, x3, s8, hk, hwk, g6, hrw, hb2, hi])
          | ((with_reducible refine CallK.pure (hcu) (Wks.refl _) ?_); simp [upd, hn, s0, s3, x3, s8, hk, hwk, g6, hrw, hb2, hi])
          | (refine Tri.exit ?_; simp [upd, hn, s0, s3, x3, s8, hk, hwk, g6, hrw, hb2, hi]; first | (rename ∀ st, Tri _ _ _ st _ → _ => hK; first | (apply hK; clear hK) | (clear hK; rename ∀ st, Tri _ _ _ st _ → _ => hK; first | (apply hK; clear hK) | (clear hK; rename ∀ st, Tri _ _ _ st _ → _ => hK; first | (apply hK; clear hK) | (clear hK; rename ∀ st, Tri _ _ _ st _ → _ => hK; first | (apply hK; clear hK) | (clear hK; rename ∀ st, Tri _ _ _ st _ → _ => hK; first | (apply hK; clear hK) | (clear hK; rename ∀ st, Tri _ _ _ st _ → _ => hK; apply hK; clear hK)))))) | skip)
          | (intro β)
          | (rename ∀ st, Tri _ _ _ st _ → _ => hK; apply hK; clear hK))
        exact ⟨m - 1, by omega, b3, k + 1, by omega, rfl, by simp [upd, s0], by simp [upd, s3], by simp [upd, x3], by simp [upd], by rw [htk]; simp [upd, Grows]⟩
    · rw [if_neg q1] at hcu
      rw [decide_eq_true (by omega), Bool.true_and] at hs
      cases q2 : ((r.atts[k].slot - l[i].pha).tdiv l[i].per == r.atts[k].frame)
      · rw [q2, Bool.not_false] at hs
        rw [if_pos hs] at htk
        rcases g6 with ⟨hnil, n0, own, g6⟩ | ⟨hne, b, g6, hrw⟩
        · have hnil' : acc = [] := by simpa using hnil
          subst hnil'
          repeat (first
            | (refine Tri.seq fun K hK => ?_)
            | (refine Tri.region ?_; simp [upd, hn, s0, s3, x3, s8, hk, hwk, g6, hi, q2])
            | (refine Tri.draw (by kernel_rfl) (by decide +kernel) ?_; simp [upd, hn, s0, s3, x3, s8, hk, hwk, g6, hi, q2])
            | (refine Tri.draw2 [] [0, 1, 2, 3, 4, 5, 6, 7, 8, 9, 10, 11] [] [] (by kernel_rfl) (by kernel_rfl) (by decide) (by rfl) (by decide +kernel) ?_; simp [upd, hn, s0, s3, x3, s8, hk, hwk, g6, hi, q2])
            | (refine Tri.cond_true ?_ ?_; (focus simp [upd, hn, s0, s3, x3, s8, hk, hwk, g6, hi, q2]; done))
            | (refine Tri.cond_false ?_ ?_; (focus simp [upd, hn, s0, s3, x3, s8, hk, hwk, g6, hi, q2]; done))
            | (refine Tri.skip ?_; simp only [thenS, blockS])
            | (refine Tri.block_seq ?_)
            | (refine Tri.block_region ?_)
            | (refine Tri.block_cond ?_)
            | ((with_reducible refine CallK.pure (hfd) (Wks.refl _) ?_); simp [upd, hn, s0, s3, x3, s8, hk, hwk, g6, hi, q2])
            | ((with_reducible refine CallK.pure (hcu) (Wks.refl _) ?_); simp [upd, hn, s0, s3, x3, s8, hk, hwk, g6, hi, q2])
            | (refine Tri.exit ?_; simp [upd, hn, s0, s3, x3, s8, hk, hwk, g6, hi, q2]; first | (rename ∀ st, Tri _ _ _ st _ → _ => hK; first | (apply hK; clear hK) | (clear hK; rename ∀ st, Tri _ _ _ st _ → _ => hK; first | (apply hK; clear hK) | (clear hK; rename ∀ st, Tri _ _ _ st _ → _ => hK; first | (apply hK; clear hK) | (clear hK; rename ∀ st, Tri _ _ _ st _ → _ => hK; first | (apply hK; clear hK) | (clear hK; rename ∀ st, Tri _ _ _ st _ → _ => hK; first | (apply hK; clear hK) | (clear hK; rename ∀ st, Tri _ _ _ st _ → _ => hK; apply hK; clear hK)))))) | skip)
            | (intro β)
            | (rename ∀ st, Tri _ _ _ st _ → _ => hK; apply hK; clear hK))
          exact ⟨m - 1, by omega, b3, k + 1, by omega, rfl, by simp [upd, s0], by simp [upd, s3], by simp [upd, x3], by simp [upd], by rw [htk]; simp [upd, Grows]⟩
        · have hb2 : (acc.length + 1) * 64 ≤ 140737488355328 := by omega
          rw [List.length_map] at hrw
          repeat (first
            | (refine Tri.seq fun K hK => ?_)
            | (refine Tri.region ?_; simp [upd, hn, s0, s3, x3, s8, hk, hwk, g6, hrw, hb2, hi, q2])
            | (refine Tri.draw (by kernel_rfl) (by decide +kernel) ?_; simp [upd, hn, s0, s3, x3, s8, hk, hwk, g6, hrw, hb2, hi, q2])
            | (refine Tri.draw2 [] [0, 1, 2, 3, 4, 5, 6, 7, 8, 9, 10, 11] [] [] (by kernel_rfl) (by kernel_rfl) (by decide) (by rfl) (by decide +kernel) ?_; simp [upd, hn, s0, s3, x3, s8, hk, hwk, g6, hrw, hb2, hi, q2])
            | (refine Tri.cond_true ?_ ?_; (focus simp [upd, hn, s0, s3, x3, s8, hk, hwk, g6, hrw, hb2, hi, q2]; done))
            | (refine Tri.cond_false ?_ ?_; (focus simp [upd, hn, s0, s3, x3, s8, hk, hwk, g6, hrw, hb2, hi, q2]; done))
            | (refine Tri.skip ?_; simp only [thenS, blockS])
            | (refine Tri.block_seq ?_)
            | (refine Tri.block_region ?_)
            | (refine Tri.block_cond ?_)
            | ((with_reducible refine CallK.pure (hfd) (Wks.refl _) ?_); simp [upd, hn, s0, s3, x3, s8, hk, hwk, g6, hrw, hb2, hi, q2])
            | ((with_reducible refine CallK.pure (hcu) (Wks.refl _) ?_); simp [upd, hn, s0, s3, x3, s8, hk, hwk, g6, hrw, hb2, hi, q2])
            | (refine Tri.exit ?_; simp [upd, hn, s0, s3, x3, s8, hk, hwk, g6, hrw, hb2, hi, q2]; first | (rename ∀ st, Tri _ _ _ st _ → _ => hK; first | (apply hK; clear hK) | (clear hK; rename ∀ st, Tri _ _ _ st _ → _ => hK; first | (apply hK; clear hK) | (clear hK; rename ∀ st, Tri _ _ _ st _ → _ => hK; first | (apply hK; clear hK) | (clear hK; rename ∀ st, Tri _ _ _ st _ → _ => hK; first | (apply hK; clear hK) | (clear hK; rename ∀ st, Tri _ _ _ st _ → _ => hK; first | (apply hK; clear hK) | (clear hK; rename ∀ st, Tri _ _ _ st _ → _ => hK; apply hK; clear hK)))))) | skip)
            | (intro β)
            | (rename ∀ st, Tri _ _ _ st _ → _ => hK; apply hK; clear hK))
          exact ⟨m - 1, by omega, b3, k + 1, by omega, rfl, by simp [upd, s0], by simp [upd, s3], by simp [upd, x3], by simp [upd], by rw [htk]; simp [upd, Grows]⟩
      · rw [q2, Bool.not_true] at hs
        rw [if_neg (by simp [hs]), List.append_nil] at htk
        repeat (first
          | (refine Tri.seq fun K hK => ?_)
          | (refine Tri.region ?_; simp [upd, hn, s0, s3, x3, s8, hk, hwk, hi, q2])
          | (refine Tri.draw (by kernel_rfl) (by decide +kernel) ?_; simp [upd, hn, s0, s3, x3, s8, hk, hwk, hi, q2])
          | (refine Tri.draw2 [] [0, 1, 2, 3, 4, 5, 6, 7, 8, 9, 10, 11] [] [] (by kernel_rfl) (by kernel_rfl) (by decide) (by rfl) (by decide +kernel) ?_; simp [upd, hn, s0, s3, x3, s8, hk, hwk, hi, q2])
          | (refine Tri.cond_true ?_ ?_; (focus simp [upd, hn, s0, s3, x3, s8, hk, hwk, hi, q2]; done))
          | (refine Tri.cond_false ?_ ?_; (focus simp [upd, hn, s0, s3, x3, s8, hk, hwk, hi, q2]; done))
          | (refine Tri.skip ?_; simp only [thenS, blockS])
          | (refine Tri.block_seq ?_)
          | (refine Tri.block_region ?_)
          | (refine Tri.block_cond ?_)
          | ((with_reducible refine CallK.pure (hfd) (Wks.refl _) ?_); simp [upd, hn, s0, s3, x3, s8, hk, hwk, hi, q2])
          | ((with_reducible refine CallK.pure (hcu) (Wks.refl _) ?_); simp [upd, hn, s0, s3, x3, s8, hk, hwk, hi, q2])
          | (refine Tri.exit ?_; simp [upd, hn, s0, s3, x3, s8, hk, hwk, hi, q2]; first | (rename ∀ st, Tri _ _ _ st _ → _ => hK; first | (apply hK; clear hK) | (clear hK; rename ∀ st, Tri _ _ _ st _ → _ => hK; first | (apply hK; clear hK) | (clear hK; rename ∀ st, Tri _ _ _ st _ → _ => hK; first | (apply hK; clear hK) | (clear hK; rename ∀ st, Tri _ _ _ st _ → _ => hK; first | (apply hK; clear hK) | (clear hK; rename ∀ st, Tri _ _ _ st _ → _ => hK; first | (apply hK; clear hK) | (clear hK; rename ∀ st, Tri _ _ _ st _ → _ => hK; apply hK; clear hK)))))) | skip)
          | (intro β)
          | (rename ∀ st, Tri _ _ _ st _ → _ => hK; apply hK; clear hK))
        exact ⟨m - 1, by omega, b3, k + 1, by omega, rfl, by simp [upd, s0], by simp [upd, s3], by simp [upd, x3], by simp [upd], by rw [htk]; simpa [upd, Grows] using g6⟩
end Go.Proofs.Ytngbpmiikpjiaaa
end
section
open Go Go.Vm
namespace Go.Proofs.Ytngbpmiikpjiaaa
set_option maxRecDepth 100000
def mkFlo (z : List Int) : Flo := ⟨z.getD 0 0, z.getD 1 0, z.getD 2 0, z.getD 3 0, z.getD 4 0, z.getD 5 0⟩
theorem mkFlo_C (z : List Int) (h : z.length = 6) : z.map (C.int .i64) = floC (mkFlo z) := by
  match z, h with
  | [a, b, c, d, e, f], _ => rfl
theorem flat37 : flatI Try.prog 8 37 = true := by kernel_rfl
theorem u22 : Try.prog.underlying 22 = some (.slice 37) := by kernel_rfl
theorem c37 : Try.prog.cellsOf 37 = 6 := by kernel_rfl
section
variable {H : Type} {enc : TypeId × Value → H} {w : World} {base : Nat} {spare : Nat → Bool} {held : Bool}
theorem open_flows {b0 : Nat} {v : Value} {d : DataW H} {ps : List MemPlace} (hval : Value.okWide Try.prog w .any b0 22 v) (h : DataW.Trod enc Try.prog w base spare held 22 v d ps) :
    ∃ (nl : Bool) (l : List Flo), (nl = true → l = []) ∧ l.length ≤ maxLen ∧ VR (fun b _ => b < w.heap.size) w v (.c (.sl nl 6 none (l.map floC))) := by
  obtain ⟨fuel, hf⟩ := h
  have k0 := hval
  unfold Value.okWide at k0
  rw [u22] at k0
  have hsl : ∃ ad n c, v = .slice ad n c := by
    cases v <;> first | exact ⟨_, _, _, rfl⟩ | (exfalso; simp [Cell.okWide, Cell.ok, u22] at k0)
  obtain ⟨ad, n, c, rfl⟩ := hsl
  obtain ⟨nl, zs, h1, h2, h3, h4⟩ := open_flat_slice u22 flat37 c37 (v := .slice ad n c) hf (fun a len cap e => by
    cases e
    simp only [Cell.okWide, Cell.ok, u22] at k0
    exact k0.2.2.2.1)
  have e1 : (zs.map fun z => z.map (C.int .i64)) = (zs.map mkFlo).map floC := by
    rw [List.map_map]
    exact List.map_congr_left fun z hz => mkFlo_C z (h2 z hz)
  rw [e1] at h4
  exact ⟨nl, zs.map mkFlo, fun e => by rw [h1 e]; rfl, by simpa using h3, .c h4⟩
end
end Go.Proofs.Ytngbpmiikpjiaaa
end
