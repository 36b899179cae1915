/- Lemmas for the statements of this seat: R12 R13 R14 R15 R16 R17 VmOpen R18 VmPost. -/
import Derived.Test.YtcohdlochpjnjaaB2
import Derived.Deep.Slices
import Derived.ProofKit
import Derived.OpenShut
import Derived.Carry
import Derived.ChangeSame
set_option linter.all false
section
open Go Go.Vm
namespace Go.Proofs.Ytcohdlochpjnjaa
set_option maxRecDepth 100000
set_option maxHeartbeats 1000000
set_option linter.unusedSimpArgs false
attribute [local irreducible] Tri Does DoesB Rounds
def lossGo (frm to : Int) : List Int → List Att → List (List Int)
  | run, [] => if run = [] then [] else [run]
  | run, a :: r => if a.frm = frm ∧ a.to = to then (if a.out = 1 then (if run = [] then lossGo frm to [] r else run :: lossGo frm to [] r) else lossGo frm to (run ++ [a.slot]) r) else lossGo frm to run r
def attsOf (r : Rec) (flow frame : Int) : List Att := r.atts.filter fun a => a.flow == flow && a.frame == frame
def losses (r : Rec) (flow frame frm to : Int) : List (List Int) := lossGo frm to [] (attsOf r flow frame)
structure LI (frm to : Int) (l : List Att) (nl : Bool) (st : St) (b12 b11 : Nat) (R O : C) (run : List Int) (outs : List (List Int)) (k : Nat) : Prop where
  hn : st.n = 54
  s3 : st.sl 3 = .c (.int .i64 frm)
  s4 : st.sl 4 = .c (.int .i64 to)
  s12 : st.sl 12 = .c (.box 12 b12 0)
  s11 : st.sl 11 = .c (.box 11 b11 0)
  s13 : st.sl 13 = .c (.fn 51 [.box 12 b12 0, .box 11 b11 0])
  s20 : st.sl 20 = .c (.sl nl 8 none (l.map attC))
  x12 : st.bx 12 = some (b12, [R])
  x11 : st.bx 11 = some (b11, [O])
  gR : GC st R 30 3 1 (I1 run)
  gO : GC st O 8 48 1 (runsC outs)
  lr : run.length ≤ k
  lo : outs.length ≤ k
  eq : lossGo frm to [] l = outs ++ lossGo frm to run (l.drop k)
def LInv (frm to : Int) (l : List Att) (nl : Bool) (k : Nat) (st : St) : Prop := ∃ b12 b11 R O run outs, LI frm to l nl st b12 b11 R O run outs k
theorem GC.isO {st : St} {c : C} {key e n : Nat} {es : List (List C)} (h : GC st c key e n es) : C.isO c = false := by
  rcases h with ⟨_, _, _, rfl⟩ | ⟨_, _, rfl, _⟩ <;> rfl
theorem GC.put {st : St} {c : C} {key e n : Nat} {es : List (List C)} (h : GC st c key e n es) (d : Option Tmp) (v : V) : GC (st.put d v) c key e n es := by
  unfold GC at h ⊢
  rw [put_rw]
  exact h
theorem losses_does (r : Rec) (flow frame frm to : Int) (hl : r.atts.length ≤ 1073741824) : Does Try.prog 21 [.agg (recC r), .c (.int .i64 flow), .c (.int .i64 frame), .c (.int .i64 frm), .c (.int .i64 to)]
    (.c (.sl (losses r flow frame frm to).isEmpty 1 none (runsC (losses r flow frame frm to)))) := by
  refine Does.of_body Try.func21 rfl (by kernel_rfl) rfl rfl (by simp) ?_
  intro E
  have hat := attempts_does r flow frame (by omega)
  have hal : (attsOf r flow frame).length ≤ r.atts.length := List.length_filter_le ..
  change Does Try.prog 20 _ (.c (.sl (attsOf r flow frame).isEmpty 8 none ((attsOf r flow frame).map attC))) at hat
  unfold losses
  generalize attsOf r flow frame = l at hat hal
  simp only [recC] at hat ⊢
  repeat (first
    | (refine Tri.seq fun K hK => ?_)
    | (refine Tri.region ?_; simp [upd])
    | (refine Tri.draw (by kernel_rfl) (by decide +kernel) ?_; simp [upd])
    | (refine Tri.cond_true ?_ ?_; (focus simp [upd]; done))
    | (refine Tri.cond_false ?_ ?_; (focus simp [upd]; done))
    | (refine Tri.skip ?_; simp only [thenS, blockS])
    | (refine Tri.block_seq ?_)
    | (refine Tri.block_region ?_)
    | (refine Tri.block_cond ?_)
    | ((with_reducible refine CallK.pure (hat) (Wks.refl _) ?_); simp [upd])
    | (refine Tri.exit ?_; simp [upd]; first | (rename ∀ st, Tri _ _ _ st _ → _ => hK; first | (apply hK; clear hK) | (clear hK; rename ∀ st, Tri _ _ _ st _ → _ => hK; first | (apply hK; clear hK) | (clear hK; rename ∀ st, Tri _ _ _ st _ → _ => hK; first | (apply hK; clear hK) | (clear hK; rename ∀ st, Tri _ _ _ st _ → _ => hK; first | (apply hK; clear hK) | (clear hK; rename ∀ st, Tri _ _ _ st _ → _ => hK; first | (apply hK; clear hK) | (clear hK; rename ∀ st, Tri _ _ _ st _ → _ => hK; apply hK; clear hK)))))) | skip)
    | (intro β)
    | (rename ∀ st, Tri _ _ _ st _ → _ => hK; apply hK; clear hK))
  refine Tri.range 22 21 23 50 54 rfl rfl l.length (LInv frm to l l.isEmpty) (by simp) (by omega) ?_ rfl (by simp [upd]) (by simp [upd]) ?_ ?_ ?_
  · rintro k st t v ht ⟨b12, b11, R, O, run, outs, h⟩
    refine ⟨b12, b11, R, O, run, outs, ?_⟩
    rcases ht with rfl | rfl | rfl <;> exact ⟨h.hn, by simpa [upd] using h.s3, by simpa [upd] using h.s4, by simpa [upd] using h.s12, by simpa [upd] using h.s11, by simpa [upd] using h.s13, by simpa [upd] using h.s20, h.x12, h.x11, h.gR.put _ _, h.gO.put _ _, h.lr, h.lo, h.eq⟩
  · refine ⟨_, _, .sl true 0 none [], .sl true 0 none [], [], [], ⟨rfl, by simp [upd], by simp [upd], by simp [upd] <;> exact rfl, by simp [upd] <;> exact rfl, by simp [upd], by simp [upd], by simp [upd], by simp [upd], .inl ⟨rfl, _, _, rfl⟩, .inl ⟨rfl, _, _, rfl⟩, by simp, by simp, rfl⟩⟩
  · rintro k st hk ⟨b12, b11, R, O, run, outs, ⟨hn, s3, s4, s12, s11, s13, s20, x12, x11, gR, gO, lr, lo, eq⟩⟩ - h22 h21
    have hd : l.drop k = l[k] :: l.drop (k + 1) := List.drop_eq_getElem_cons hk
    rw [hd, lossGo] at eq
    by_cases hc : l[k].frm = frm ∧ l[k].to = to
    case neg =>
      rw [if_neg hc] at eq
      cases e1 : (l[k].frm == frm)
      case false =>
        repeat (first
          | (refine Tri.seq fun K hK => ?_)
          | (refine Tri.region ?_; simp [upd, hn, s3, s4, s12, s11, s13, s20, x12, x11, h22, h21, hk, e1, bne])
          | (refine Tri.draw (by kernel_rfl) (by decide +kernel) ?_; simp [upd, hn, s3, s4, s12, s11, s13, s20, x12, x11, h22, h21, hk, e1, bne])
          | (refine Tri.cond_true ?_ ?_; (focus simp [upd, hn, s3, s4, s12, s11, s13, s20, x12, x11, h22, h21, hk, e1, bne]; done))
          | (refine Tri.cond_false ?_ ?_; (focus simp [upd, hn, s3, s4, s12, s11, s13, s20, x12, x11, h22, h21, hk, e1, bne]; done))
          | (refine Tri.skip ?_; simp only [thenS, blockS])
          | (refine Tri.block_seq ?_)
          | (refine Tri.block_region ?_)
          | (refine Tri.block_cond ?_)
          | (refine Tri.exit ?_; simp [upd, hn, s3, s4, s12, s11, s13, s20, x12, x11, h22, h21, hk, e1, bne]; first | (rename ∀ st, Tri _ _ _ st _ → _ => hK; first | (apply hK; clear hK) | (clear hK; rename ∀ st, Tri _ _ _ st _ → _ => hK; first | (apply hK; clear hK) | (clear hK; rename ∀ st, Tri _ _ _ st _ → _ => hK; first | (apply hK; clear hK) | (clear hK; rename ∀ st, Tri _ _ _ st _ → _ => hK; first | (apply hK; clear hK) | (clear hK; rename ∀ st, Tri _ _ _ st _ → _ => hK; first | (apply hK; clear hK) | (clear hK; rename ∀ st, Tri _ _ _ st _ → _ => hK; apply hK; clear hK)))))) | skip)
          | (intro β)
          | (rename ∀ st, Tri _ _ _ st _ → _ => hK; apply hK; clear hK))
        try simp [upd, h22, h21]
        refine ⟨b12, b11, R, O, run, outs, ⟨rfl, by simpa [upd] using s3, by simpa [upd] using s4, by simpa [upd] using s12, by simpa [upd] using s11, by simpa [upd] using s13, by simpa [upd] using s20, by simp [upd, x12] <;> exact rfl, by simp [upd, x11] <;> exact rfl, ?_, ?_, ?_, ?_, ?_⟩⟩
        · simpa [GC] using gR
        · simpa [GC] using gO
        · omega
        · omega
        · exact eq
      case true =>
        have e2 : (l[k].to == to) = false := by
          cases h : (l[k].to == to)
          · rfl
          · exact absurd ⟨by simpa using e1, by simpa using h⟩ hc
        repeat (first
          | (refine Tri.seq fun K hK => ?_)
          | (refine Tri.region ?_; simp [upd, hn, s3, s4, s12, s11, s13, s20, x12, x11, h22, h21, hk, e1, e2, bne])
          | (refine Tri.draw (by kernel_rfl) (by decide +kernel) ?_; simp [upd, hn, s3, s4, s12, s11, s13, s20, x12, x11, h22, h21, hk, e1, e2, bne])
          | (refine Tri.cond_true ?_ ?_; (focus simp [upd, hn, s3, s4, s12, s11, s13, s20, x12, x11, h22, h21, hk, e1, e2, bne]; done))
          | (refine Tri.cond_false ?_ ?_; (focus simp [upd, hn, s3, s4, s12, s11, s13, s20, x12, x11, h22, h21, hk, e1, e2, bne]; done))
          | (refine Tri.skip ?_; simp only [thenS, blockS])
          | (refine Tri.block_seq ?_)
          | (refine Tri.block_region ?_)
          | (refine Tri.block_cond ?_)
          | (refine Tri.exit ?_; simp [upd, hn, s3, s4, s12, s11, s13, s20, x12, x11, h22, h21, hk, e1, e2, bne]; first | (rename ∀ st, Tri _ _ _ st _ → _ => hK; first | (apply hK; clear hK) | (clear hK; rename ∀ st, Tri _ _ _ st _ → _ => hK; first | (apply hK; clear hK) | (clear hK; rename ∀ st, Tri _ _ _ st _ → _ => hK; first | (apply hK; clear hK) | (clear hK; rename ∀ st, Tri _ _ _ st _ → _ => hK; first | (apply hK; clear hK) | (clear hK; rename ∀ st, Tri _ _ _ st _ → _ => hK; first | (apply hK; clear hK) | (clear hK; rename ∀ st, Tri _ _ _ st _ → _ => hK; apply hK; clear hK)))))) | skip)
          | (intro β)
          | (rename ∀ st, Tri _ _ _ st _ → _ => hK; apply hK; clear hK))
        try simp [upd, h22, h21]
        refine ⟨b12, b11, R, O, run, outs, ⟨rfl, by simpa [upd] using s3, by simpa [upd] using s4, by simpa [upd] using s12, by simpa [upd] using s11, by simpa [upd] using s13, by simpa [upd] using s20, by simp [upd, x12] <;> exact rfl, by simp [upd, x11] <;> exact rfl, ?_, ?_, ?_, ?_, ?_⟩⟩
        · simpa [GC] using gR
        · simpa [GC] using gO
        · omega
        · omega
        · exact eq
    rw [if_pos hc] at eq
    have e1 : (l[k].frm == frm) = true := by simpa using hc.1
    have e2 : (l[k].to == to) = true := by simpa using hc.2
    cases e3 : (l[k].out == 1)
    case false =>
      rw [if_neg (by simpa using e3)] at eq
      rcases gR with ⟨hnil, k0, own, rfl⟩ | ⟨b, hne, rfl, hrw⟩
      · have hrun : run = [] := by simpa [I1] using hnil
        subst hrun
        repeat (first
          | (refine Tri.seq fun K hK => ?_)
          | (refine Tri.region ?_; simp [upd, hn, s3, s4, s12, s11, s13, s20, x12, x11, h22, h21, hk, e1, e2, e3, bne])
          | (refine Tri.draw (by kernel_rfl) (by decide +kernel) ?_; simp [upd, hn, s3, s4, s12, s11, s13, s20, x12, x11, h22, h21, hk, e1, e2, e3, bne])
          | (refine Tri.cond_true ?_ ?_; (focus simp [upd, hn, s3, s4, s12, s11, s13, s20, x12, x11, h22, h21, hk, e1, e2, e3, bne]; done))
          | (refine Tri.cond_false ?_ ?_; (focus simp [upd, hn, s3, s4, s12, s11, s13, s20, x12, x11, h22, h21, hk, e1, e2, e3, bne]; done))
          | (refine Tri.skip ?_; simp only [thenS, blockS])
          | (refine Tri.block_seq ?_)
          | (refine Tri.block_region ?_)
          | (refine Tri.block_cond ?_)
          | (refine Tri.exit ?_; simp [upd, hn, s3, s4, s12, s11, s13, s20, x12, x11, h22, h21, hk, e1, e2, e3, bne]; first | (rename ∀ st, Tri _ _ _ st _ → _ => hK; first | (apply hK; clear hK) | (clear hK; rename ∀ st, Tri _ _ _ st _ → _ => hK; first | (apply hK; clear hK) | (clear hK; rename ∀ st, Tri _ _ _ st _ → _ => hK; first | (apply hK; clear hK) | (clear hK; rename ∀ st, Tri _ _ _ st _ → _ => hK; first | (apply hK; clear hK) | (clear hK; rename ∀ st, Tri _ _ _ st _ → _ => hK; first | (apply hK; clear hK) | (clear hK; rename ∀ st, Tri _ _ _ st _ → _ => hK; apply hK; clear hK)))))) | skip)
          | (intro β)
          | (rename ∀ st, Tri _ _ _ st _ → _ => hK; apply hK; clear hK))
        try simp [upd, h22, h21]
        refine ⟨b12, b11, .sl false 1 (some (30, β)) (I1 [l[k].slot]), O, [l[k].slot], outs, ⟨rfl, by simpa [upd] using s3, by simpa [upd] using s4, by simpa [upd] using s12, by simpa [upd] using s11, by simpa [upd] using s13, by simpa [upd] using s20, by simp [upd, x12] <;> exact rfl, by simp [upd, x11] <;> exact rfl, ?_, ?_, ?_, ?_, ?_⟩⟩
        · exact .inr ⟨β, by simp [I1], rfl, by simp [upd, I1]⟩
        · simpa [GC, upd] using gO
        · simp
        · omega
        · simpa using eq
      · have hb : ((I1 run).length + 1) * 8 ≤ 140737488355328 := by simp [I1]; omega
        have hb2 : (I1 run).length = run.length := by simp [I1]
        repeat (first
          | (refine Tri.seq fun K hK => ?_)
          | (refine Tri.region ?_; simp [upd, hn, s3, s4, s12, s11, s13, s20, x12, x11, h22, h21, hk, e1, e2, e3, hrw, hb, bne])
          | (refine Tri.draw (by kernel_rfl) (by decide +kernel) ?_; simp [upd, hn, s3, s4, s12, s11, s13, s20, x12, x11, h22, h21, hk, e1, e2, e3, hrw, hb, bne])
          | (refine Tri.cond_true ?_ ?_; (focus simp [upd, hn, s3, s4, s12, s11, s13, s20, x12, x11, h22, h21, hk, e1, e2, e3, hrw, hb, bne]; done))
          | (refine Tri.cond_false ?_ ?_; (focus simp [upd, hn, s3, s4, s12, s11, s13, s20, x12, x11, h22, h21, hk, e1, e2, e3, hrw, hb, bne]; done))
          | (refine Tri.skip ?_; simp only [thenS, blockS])
          | (refine Tri.block_seq ?_)
          | (refine Tri.block_region ?_)
          | (refine Tri.block_cond ?_)
          | (refine Tri.exit ?_; simp [upd, hn, s3, s4, s12, s11, s13, s20, x12, x11, h22, h21, hk, e1, e2, e3, hrw, hb, bne]; first | (rename ∀ st, Tri _ _ _ st _ → _ => hK; first | (apply hK; clear hK) | (clear hK; rename ∀ st, Tri _ _ _ st _ → _ => hK; first | (apply hK; clear hK) | (clear hK; rename ∀ st, Tri _ _ _ st _ → _ => hK; first | (apply hK; clear hK) | (clear hK; rename ∀ st, Tri _ _ _ st _ → _ => hK; first | (apply hK; clear hK) | (clear hK; rename ∀ st, Tri _ _ _ st _ → _ => hK; first | (apply hK; clear hK) | (clear hK; rename ∀ st, Tri _ _ _ st _ → _ => hK; apply hK; clear hK)))))) | skip)
          | (intro β)
          | (rename ∀ st, Tri _ _ _ st _ → _ => hK; apply hK; clear hK))
        try simp [upd, h22, h21]
        refine ⟨b12, b11, .sl false 1 (some (30, β)) (I1 run ++ [[.int .i64 l[k].slot]]), O, run ++ [l[k].slot], outs, ⟨rfl, by simpa [upd] using s3, by simpa [upd] using s4, by simpa [upd] using s12, by simpa [upd] using s11, by simpa [upd] using s13, by simpa [upd] using s20, by simp [upd, x12] <;> exact rfl, by simp [upd, x11] <;> exact rfl, ?_, ?_, ?_, ?_, ?_⟩⟩
        · exact .inr ⟨β, by simp [I1], by simp [I1], by simp [upd, I1]⟩
        · simpa [GC, upd] using gO
        · simp; omega
        · omega
        · simpa using eq
    case true =>
      rw [if_pos (by simpa using e3)] at eq
      rcases gR with ⟨hnil, k0, own, rfl⟩ | ⟨b, hne, rfl, hrw⟩
      · have hrun : run = [] := by simpa [I1] using hnil
        subst hrun
        rw [if_pos rfl] at eq
        repeat (first
          | (refine Tri.seq fun K hK => ?_)
          | (refine Tri.region ?_; simp [upd, hn, s3, s4, s12, s11, s13, s20, x12, x11, h22, h21, hk, e1, e2, e3, bne])
          | (refine Tri.draw (by kernel_rfl) (by decide +kernel) ?_; simp [upd, hn, s3, s4, s12, s11, s13, s20, x12, x11, h22, h21, hk, e1, e2, e3, bne])
          | (refine Tri.cond_true ?_ ?_; (focus simp [upd, hn, s3, s4, s12, s11, s13, s20, x12, x11, h22, h21, hk, e1, e2, e3, bne]; done))
          | (refine Tri.cond_false ?_ ?_; (focus simp [upd, hn, s3, s4, s12, s11, s13, s20, x12, x11, h22, h21, hk, e1, e2, e3, bne]; done))
          | (refine Tri.skip ?_; simp only [thenS, blockS])
          | (refine Tri.block_seq ?_)
          | (refine Tri.block_region ?_)
          | (refine Tri.block_cond ?_)
          | (refine CallK.boxes (end_nil b12 b11 k0 own O) (Wks.refl _) ?_ ?_ ?_; (focus (simp [upd, x12, x11]; done)); (focus (simp; done)); simp [upd, hn, s3, s4, s12, s11, s13, s20, x12, x11, h22, h21, hk, e1, e2, e3, bne])
          | (refine Tri.exit ?_; simp [upd, hn, s3, s4, s12, s11, s13, s20, x12, x11, h22, h21, hk, e1, e2, e3, bne]; first | (rename ∀ st, Tri _ _ _ st _ → _ => hK; first | (apply hK; clear hK) | (clear hK; rename ∀ st, Tri _ _ _ st _ → _ => hK; first | (apply hK; clear hK) | (clear hK; rename ∀ st, Tri _ _ _ st _ → _ => hK; first | (apply hK; clear hK) | (clear hK; rename ∀ st, Tri _ _ _ st _ → _ => hK; first | (apply hK; clear hK) | (clear hK; rename ∀ st, Tri _ _ _ st _ → _ => hK; first | (apply hK; clear hK) | (clear hK; rename ∀ st, Tri _ _ _ st _ → _ => hK; apply hK; clear hK)))))) | skip)
          | (intro β)
          | (rename ∀ st, Tri _ _ _ st _ → _ => hK; apply hK; clear hK))
        try simp [upd, h22, h21]
        refine ⟨b12, b11, .sl true 0 none [], O, [], outs, ⟨rfl, by simpa [upd] using s3, by simpa [upd] using s4, by simpa [upd] using s12, by simpa [upd] using s11, by simpa [upd] using s13, by simpa [upd] using s20, by simp [upd, x12] <;> exact rfl, by simp [upd, x11] <;> exact rfl, ?_, ?_, ?_, ?_, ?_⟩⟩
        · exact .inl ⟨rfl, _, _, rfl⟩
        · simpa [GC, upd] using gO
        · simp
        · omega
        · exact eq
      · have hrun : run ≠ [] := by intro e; subst e; exact hne rfl
        have hl2 : 0 < (I1 run).length := by cases run <;> simp_all [I1]
        rw [if_neg hrun] at eq
        rcases gO with ⟨hnil, k0, own, rfl⟩ | ⟨bo, hneo, rfl, hrwo⟩
        · have hout : outs = [] := by simpa [runsC] using hnil
          subst hout
          repeat (first
            | (refine Tri.seq fun K hK => ?_)
            | (refine Tri.region ?_; simp [upd, hn, s3, s4, s12, s11, s13, s20, x12, x11, h22, h21, hk, e1, e2, e3, bne])
            | (refine Tri.draw (by kernel_rfl) (by decide +kernel) ?_; simp [upd, hn, s3, s4, s12, s11, s13, s20, x12, x11, h22, h21, hk, e1, e2, e3, bne])
            | (refine Tri.cond_true ?_ ?_; (focus simp [upd, hn, s3, s4, s12, s11, s13, s20, x12, x11, h22, h21, hk, e1, e2, e3, bne]; done))
            | (refine Tri.cond_false ?_ ?_; (focus simp [upd, hn, s3, s4, s12, s11, s13, s20, x12, x11, h22, h21, hk, e1, e2, e3, bne]; done))
            | (refine Tri.skip ?_; simp only [thenS, blockS])
            | (refine Tri.block_seq ?_)
            | (refine Tri.block_region ?_)
            | (refine Tri.block_cond ?_)
            | (refine CallK.boxed (end_first b12 b11 k0 30 b own (I1 run) hl2) [12, 11] [] [8] (fun _ => .tup []) (Wks.refl _) (by simp [upd, x12, x11]) trivial (by simp) (by simp) (fun _ => Wk.refl _) (fun _ => rfl) (by simp) ?_; intro β; simp [upd, hn, s3, s4, s12, s11, s13, s20, x12, x11, h22, h21, hk, e1, e2, e3, bne])
            | (refine Tri.exit ?_; simp [upd, hn, s3, s4, s12, s11, s13, s20, x12, x11, h22, h21, hk, e1, e2, e3, bne]; first | (rename ∀ st, Tri _ _ _ st _ → _ => hK; first | (apply hK; clear hK) | (clear hK; rename ∀ st, Tri _ _ _ st _ → _ => hK; first | (apply hK; clear hK) | (clear hK; rename ∀ st, Tri _ _ _ st _ → _ => hK; first | (apply hK; clear hK) | (clear hK; rename ∀ st, Tri _ _ _ st _ → _ => hK; first | (apply hK; clear hK) | (clear hK; rename ∀ st, Tri _ _ _ st _ → _ => hK; first | (apply hK; clear hK) | (clear hK; rename ∀ st, Tri _ _ _ st _ → _ => hK; apply hK; clear hK)))))) | skip)
            | (intro β)
            | (rename ∀ st, Tri _ _ _ st _ → _ => hK; apply hK; clear hK))
          try simp [upd, h22, h21]
          refine ⟨b12, b11, .sl true 0 none [], .sl false 1 (some (8, β)) [[.sl false 1 none (I1 run)]], [], [run], ⟨rfl, by simpa [upd] using s3, by simpa [upd] using s4, by simpa [upd] using s12, by simpa [upd] using s11, by simpa [upd] using s13, by simpa [upd] using s20, by simp [upd, x12] <;> exact rfl, by simp [upd, x11] <;> exact rfl, ?_, ?_, ?_, ?_, ?_⟩⟩
          · exact .inl ⟨rfl, _, _, rfl⟩
          · exact .inr ⟨β, by simp [runsC], by simp [runsC, runC], by simp [upd, runsC]⟩
          · simp
          · simp
          · exact eq
        · have ho2 : (runsC outs).length ≤ 1073741824 := by simp [runsC]; omega
          repeat (first
            | (refine Tri.seq fun K hK => ?_)
            | (refine Tri.region ?_; simp [upd, hn, s3, s4, s12, s11, s13, s20, x12, x11, h22, h21, hk, e1, e2, e3, bne])
            | (refine Tri.draw (by kernel_rfl) (by decide +kernel) ?_; simp [upd, hn, s3, s4, s12, s11, s13, s20, x12, x11, h22, h21, hk, e1, e2, e3, bne])
            | (refine Tri.cond_true ?_ ?_; (focus simp [upd, hn, s3, s4, s12, s11, s13, s20, x12, x11, h22, h21, hk, e1, e2, e3, bne]; done))
            | (refine Tri.cond_false ?_ ?_; (focus simp [upd, hn, s3, s4, s12, s11, s13, s20, x12, x11, h22, h21, hk, e1, e2, e3, bne]; done))
            | (refine Tri.skip ?_; simp only [thenS, blockS])
            | (refine Tri.block_seq ?_)
            | (refine Tri.block_region ?_)
            | (refine Tri.block_cond ?_)
            | (refine CallK.boxed (end_more b12 b11 30 b bo (I1 run) (runsC outs) hl2 ho2) [12, 11] [8] [8] (fun _ => .tup []) (Wks.refl _) (by simp [upd, x12, x11]) (by simp [upd, hrwo]) (by simp) (by simp) (fun _ => Wk.refl _) (fun _ => rfl) (by simp) ?_; intro β; simp [upd, hn, s3, s4, s12, s11, s13, s20, x12, x11, h22, h21, hk, e1, e2, e3, bne])
            | (refine Tri.exit ?_; simp [upd, hn, s3, s4, s12, s11, s13, s20, x12, x11, h22, h21, hk, e1, e2, e3, bne]; first | (rename ∀ st, Tri _ _ _ st _ → _ => hK; first | (apply hK; clear hK) | (clear hK; rename ∀ st, Tri _ _ _ st _ → _ => hK; first | (apply hK; clear hK) | (clear hK; rename ∀ st, Tri _ _ _ st _ → _ => hK; first | (apply hK; clear hK) | (clear hK; rename ∀ st, Tri _ _ _ st _ → _ => hK; first | (apply hK; clear hK) | (clear hK; rename ∀ st, Tri _ _ _ st _ → _ => hK; first | (apply hK; clear hK) | (clear hK; rename ∀ st, Tri _ _ _ st _ → _ => hK; apply hK; clear hK)))))) | skip)
            | (intro β)
            | (rename ∀ st, Tri _ _ _ st _ → _ => hK; apply hK; clear hK))
          try simp [upd, h22, h21]
          refine ⟨b12, b11, .sl true 0 none [], .sl false 1 (some (8, β)) (runsC outs ++ [[.sl false 1 none (I1 run)]]), [], outs ++ [run], ⟨rfl, by simpa [upd] using s3, by simpa [upd] using s4, by simpa [upd] using s12, by simpa [upd] using s11, by simpa [upd] using s13, by simpa [upd] using s20, by simp [upd, x12] <;> exact rfl, by simp [upd, x11] <;> exact rfl, ?_, ?_, ?_, ?_, ?_⟩⟩
          · exact .inl ⟨rfl, _, _, rfl⟩
          · exact .inr ⟨β, by simp [runsC], by simp [runsC, runC], by simp [upd, runsC]⟩
          · simp
          · simp; omega
          · simpa using eq
  · rintro st ⟨b12, b11, R, O, run, outs, ⟨hn, s3, s4, s12, s11, s13, s20, x12, x11, gR, gO, lr, lo, eq⟩⟩ -
    rw [List.drop_length, lossGo] at eq
    apply hK
    have ret : ∀ (st : St) (O : C) (outs : List (List Int)), GC st O 8 48 1 (runsC outs) → Wk (.c O) (.c (.sl outs.isEmpty 1 none (runsC outs))) := fun st O outs h => by simpa [runsC] using h.wk
    have iO : C.isO O = false := gO.isO
    simp only [C.isO] at iO
    rcases gR with ⟨hnil, k0, own, rfl⟩ | ⟨b, hne, rfl, hrw⟩
    · have hrun : run = [] := by simpa [I1] using hnil
      subst hrun
      rw [if_pos rfl, List.append_nil] at eq
      rw [eq]
      repeat (first
        | (refine Tri.seq fun K hK => ?_)
        | (refine Tri.region ?_; simp [upd, hn, s3, s4, s12, s11, s13, s20, x12, x11, iO])
        | (refine Tri.draw (by kernel_rfl) (by decide +kernel) ?_; simp [upd, hn, s3, s4, s12, s11, s13, s20, x12, x11, iO])
        | (refine Tri.cond_true ?_ ?_; (focus simp [upd, hn, s3, s4, s12, s11, s13, s20, x12, x11, iO]; done))
        | (refine Tri.cond_false ?_ ?_; (focus simp [upd, hn, s3, s4, s12, s11, s13, s20, x12, x11, iO]; done))
        | (refine Tri.skip ?_; simp only [thenS, blockS])
        | (refine Tri.block_seq ?_)
        | (refine Tri.block_region ?_)
        | (refine Tri.block_cond ?_)
        | (refine CallK.boxes (end_nil b12 b11 k0 own O) (Wks.refl _) ?_ ?_ ?_; (focus (simp [upd, x12, x11]; done)); (focus (simp; done)); simp [upd, hn, s3, s4, s12, s11, s13, s20, x12, x11, iO])
        | (refine Tri.exit ?_; simp [upd, hn, s3, s4, s12, s11, s13, s20, x12, x11, iO]; first | (rename ∀ st, Tri _ _ _ st _ → _ => hK; first | (apply hK; clear hK) | (clear hK; rename ∀ st, Tri _ _ _ st _ → _ => hK; first | (apply hK; clear hK) | (clear hK; rename ∀ st, Tri _ _ _ st _ → _ => hK; first | (apply hK; clear hK) | (clear hK; rename ∀ st, Tri _ _ _ st _ → _ => hK; first | (apply hK; clear hK) | (clear hK; rename ∀ st, Tri _ _ _ st _ → _ => hK; first | (apply hK; clear hK) | (clear hK; rename ∀ st, Tri _ _ _ st _ → _ => hK; apply hK; clear hK)))))) | skip)
        | (intro β)
        | (rename ∀ st, Tri _ _ _ st _ → _ => hK; apply hK; clear hK))
      refine Tri.ret ⟨_, rfl, ?_⟩
      simp [upd]
      exact ret st _ _ gO
    · have hrun : run ≠ [] := by intro e; subst e; exact hne rfl
      have hl2 : 0 < (I1 run).length := by cases run <;> simp_all [I1]
      rw [if_neg hrun] at eq
      rw [eq]
      rcases gO with ⟨hnil, k0, own, rfl⟩ | ⟨bo, hneo, rfl, hrwo⟩
      · have hout : outs = [] := by simpa [runsC] using hnil
        subst hout
        repeat (first
          | (refine Tri.seq fun K hK => ?_)
          | (refine Tri.region ?_; simp [upd, hn, s3, s4, s12, s11, s13, s20, x12, x11])
          | (refine Tri.draw (by kernel_rfl) (by decide +kernel) ?_; simp [upd, hn, s3, s4, s12, s11, s13, s20, x12, x11])
          | (refine Tri.cond_true ?_ ?_; (focus simp [upd, hn, s3, s4, s12, s11, s13, s20, x12, x11]; done))
          | (refine Tri.cond_false ?_ ?_; (focus simp [upd, hn, s3, s4, s12, s11, s13, s20, x12, x11]; done))
          | (refine Tri.skip ?_; simp only [thenS, blockS])
          | (refine Tri.block_seq ?_)
          | (refine Tri.block_region ?_)
          | (refine Tri.block_cond ?_)
          | (refine CallK.boxed (end_first b12 b11 k0 30 b own (I1 run) hl2) [12, 11] [] [8] (fun _ => .tup []) (Wks.refl _) (by simp [upd, x12, x11]) trivial (by simp) (by simp) (fun _ => Wk.refl _) (fun _ => rfl) (by simp) ?_; intro β; simp [upd, hn, s3, s4, s12, s11, s13, s20, x12, x11])
          | (refine Tri.exit ?_; simp [upd, hn, s3, s4, s12, s11, s13, s20, x12, x11]; first | (rename ∀ st, Tri _ _ _ st _ → _ => hK; first | (apply hK; clear hK) | (clear hK; rename ∀ st, Tri _ _ _ st _ → _ => hK; first | (apply hK; clear hK) | (clear hK; rename ∀ st, Tri _ _ _ st _ → _ => hK; first | (apply hK; clear hK) | (clear hK; rename ∀ st, Tri _ _ _ st _ → _ => hK; first | (apply hK; clear hK) | (clear hK; rename ∀ st, Tri _ _ _ st _ → _ => hK; first | (apply hK; clear hK) | (clear hK; rename ∀ st, Tri _ _ _ st _ → _ => hK; apply hK; clear hK)))))) | skip)
          | (intro β)
          | (rename ∀ st, Tri _ _ _ st _ → _ => hK; apply hK; clear hK))
        refine Tri.ret ⟨_, rfl, ?_⟩
        simp [upd, runsC, runC]
        exact .untag _ _ _ _
      · have ho2 : (runsC outs).length ≤ 1073741824 := by simp [runsC]; omega
        repeat (first
          | (refine Tri.seq fun K hK => ?_)
          | (refine Tri.region ?_; simp [upd, hn, s3, s4, s12, s11, s13, s20, x12, x11])
          | (refine Tri.draw (by kernel_rfl) (by decide +kernel) ?_; simp [upd, hn, s3, s4, s12, s11, s13, s20, x12, x11])
          | (refine Tri.cond_true ?_ ?_; (focus simp [upd, hn, s3, s4, s12, s11, s13, s20, x12, x11]; done))
          | (refine Tri.cond_false ?_ ?_; (focus simp [upd, hn, s3, s4, s12, s11, s13, s20, x12, x11]; done))
          | (refine Tri.skip ?_; simp only [thenS, blockS])
          | (refine Tri.block_seq ?_)
          | (refine Tri.block_region ?_)
          | (refine Tri.block_cond ?_)
          | (refine CallK.boxed (end_more b12 b11 30 b bo (I1 run) (runsC outs) hl2 ho2) [12, 11] [8] [8] (fun _ => .tup []) (Wks.refl _) (by simp [upd, x12, x11]) (by simp [upd, hrwo]) (by simp) (by simp) (fun _ => Wk.refl _) (fun _ => rfl) (by simp) ?_; intro β; simp [upd, hn, s3, s4, s12, s11, s13, s20, x12, x11])
          | (refine Tri.exit ?_; simp [upd, hn, s3, s4, s12, s11, s13, s20, x12, x11]; first | (rename ∀ st, Tri _ _ _ st _ → _ => hK; first | (apply hK; clear hK) | (clear hK; rename ∀ st, Tri _ _ _ st _ → _ => hK; first | (apply hK; clear hK) | (clear hK; rename ∀ st, Tri _ _ _ st _ → _ => hK; first | (apply hK; clear hK) | (clear hK; rename ∀ st, Tri _ _ _ st _ → _ => hK; first | (apply hK; clear hK) | (clear hK; rename ∀ st, Tri _ _ _ st _ → _ => hK; first | (apply hK; clear hK) | (clear hK; rename ∀ st, Tri _ _ _ st _ → _ => hK; apply hK; clear hK)))))) | skip)
          | (intro β)
          | (rename ∀ st, Tri _ _ _ st _ → _ => hK; apply hK; clear hK))
        refine Tri.ret ⟨_, rfl, ?_⟩
        have hem : (outs ++ [run]).isEmpty = false := by cases outs <;> rfl
        rw [hem]
        simp [upd, runsC, runC]
        exact .untag _ _ _ _
end Go.Proofs.Ytcohdlochpjnjaa
end
section
open Go Go.Vm
namespace Go.Proofs.Ytcohdlochpjnjaa
set_option maxRecDepth 100000
set_option maxHeartbeats 1000000
set_option linter.unusedSimpArgs false
attribute [local irreducible] Tri Does DoesB Rounds
def cntN (o : Int) (l : List Att) : Nat := (l.filter fun a => a.out == o).length
def counts (r : Rec) : List C := [.int .i64 (r.dels.length : Int), .int .i64 (cntN 1 r.atts : Int), .int .i64 (cntN 2 r.atts : Int), .int .i64 (cntN 3 r.atts : Int), .int .i64 (cntN 4 r.atts : Int)]
theorem cntN_take (o : Int) (l : List Att) (k : Nat) (hk : k < l.length) : cntN o (l.take (k + 1)) = cntN o (l.take k) + if l[k].out = o then 1 else 0 := by
  unfold cntN
  rw [List.take_succ_eq_append_getElem hk, List.filter_append, List.length_append]
  congr 1
  by_cases h : l[k].out = o <;> simp [h]
theorem cntN_le (o : Int) (l : List Att) (k : Nat) : cntN o (l.take k) ≤ k := Nat.le_trans (List.length_filter_le ..) (List.length_take_le ..)
def CInv (r : Rec) (k : Nat) (st : St) : Prop := ∃ b3 b2, st.sl 13 = .c (.sl r.an 8 none (r.atts.map attC)) ∧ st.sl 3 = .c (.box 3 b3 0) ∧ st.sl 2 = .c (.box 2 b2 0) ∧ st.bx 2 = some (b2, [.int .i64 0, .int .i64 0, .int .i64 0, .int .i64 0, .int .i64 0]) ∧
  st.bx 3 = some (b3, [.int .i64 (r.dels.length : Int), .int .i64 (cntN 1 (r.atts.take k) : Int), .int .i64 (cntN 2 (r.atts.take k) : Int), .int .i64 (cntN 3 (r.atts.take k) : Int), .int .i64 (cntN 4 (r.atts.take k) : Int)])
theorem counts_does (r : Rec) (hl : r.atts.length ≤ 1073741824) : Does Try.prog 28 [.agg (recC r)] (.agg (counts r)) := by
  refine Does.of_body Try.func28 rfl (by kernel_rfl) rfl rfl (by simp) ?_
  intro E
  simp only [recC]
  repeat (first
    | (refine Tri.seq fun K hK => ?_)
    | (refine Tri.region ?_; simp [upd])
    | (refine Tri.draw (by kernel_rfl) (by decide +kernel) ?_; simp [upd])
    | (refine Tri.cond_true ?_ ?_; (focus simp [upd]; done))
    | (refine Tri.cond_false ?_ ?_; (focus simp [upd]; done))
    | (refine Tri.skip ?_; simp only [thenS, blockS])
    | (refine Tri.block_seq ?_)
    | (refine Tri.block_region ?_)
    | (refine Tri.block_cond ?_)
    | (refine Tri.exit ?_; simp [upd]; first | (rename ∀ st, Tri _ _ _ st _ → _ => hK; first | (apply hK; clear hK) | (clear hK; rename ∀ st, Tri _ _ _ st _ → _ => hK; first | (apply hK; clear hK) | (clear hK; rename ∀ st, Tri _ _ _ st _ → _ => hK; first | (apply hK; clear hK) | (clear hK; rename ∀ st, Tri _ _ _ st _ → _ => hK; first | (apply hK; clear hK) | (clear hK; rename ∀ st, Tri _ _ _ st _ → _ => hK; first | (apply hK; clear hK) | (clear hK; rename ∀ st, Tri _ _ _ st _ → _ => hK; apply hK; clear hK)))))) | skip)
    | (intro β)
    | (rename ∀ st, Tri _ _ _ st _ → _ => hK; apply hK; clear hK))
  refine Tri.range 15 14 16 33 35 rfl rfl r.atts.length (CInv r) (by simp) (by omega) ?_ rfl (by simp [upd]) (by simp [upd]) ?_ ?_ ?_
  · rintro k st t v ht ⟨b3, b2, a1, a2, a3, a4, a5⟩
    rcases ht with rfl | rfl | rfl <;> exact ⟨b3, b2, by simpa [upd] using a1, by simpa [upd] using a2, by simpa [upd] using a3, a4, a5⟩
  · exact ⟨_, _, by simp [upd], by simp [upd] <;> exact rfl, by simp [upd] <;> exact rfl, by simp [upd], by simp [upd, cntN]⟩
  · rintro k st hk ⟨b3, b2, a1, a2, a3, a4, a5⟩ hn h15 h14
    have c1 := cntN_take 1 r.atts k hk
    have c2 := cntN_take 2 r.atts k hk
    have c3 := cntN_take 3 r.atts k hk
    have c4 := cntN_take 4 r.atts k hk
    have w : ∀ o, IntKind.i64.wrap ((cntN o (r.atts.take k) : Int) + 1) = (cntN o (r.atts.take k) : Int) + 1 := fun o => by
      have := cntN_le o r.atts k
      exact wrap_i64 (by omega) (by omega)
    by_cases g1 : 1 ≤ r.atts[k].out
    case neg =>
      have n1 : ¬ r.atts[k].out = 1 := by omega
      have n2 : ¬ r.atts[k].out = 2 := by omega
      have n3 : ¬ r.atts[k].out = 3 := by omega
      have n4 : ¬ r.atts[k].out = 4 := by omega
      simp only [n1, n2, n3, n4, if_false, Nat.add_zero] at c1 c2 c3 c4
      repeat (first
        | (refine Tri.seq fun K hK => ?_)
        | (refine Tri.region ?_; simp [upd, hn, a1, a2, a3, a4, a5, h15, h14, hk, g1])
        | (refine Tri.draw (by kernel_rfl) (by decide +kernel) ?_; simp [upd, hn, a1, a2, a3, a4, a5, h15, h14, hk, g1])
        | (refine Tri.cond_true ?_ ?_; (focus simp [upd, hn, a1, a2, a3, a4, a5, h15, h14, hk, g1]; done))
        | (refine Tri.cond_false ?_ ?_; (focus simp [upd, hn, a1, a2, a3, a4, a5, h15, h14, hk, g1]; done))
        | (refine Tri.skip ?_; simp only [thenS, blockS])
        | (refine Tri.block_seq ?_)
        | (refine Tri.block_region ?_)
        | (refine Tri.block_cond ?_)
        | (refine Tri.exit ?_; simp [upd, hn, a1, a2, a3, a4, a5, h15, h14, hk, g1]; first | (rename ∀ st, Tri _ _ _ st _ → _ => hK; first | (apply hK; clear hK) | (clear hK; rename ∀ st, Tri _ _ _ st _ → _ => hK; first | (apply hK; clear hK) | (clear hK; rename ∀ st, Tri _ _ _ st _ → _ => hK; first | (apply hK; clear hK) | (clear hK; rename ∀ st, Tri _ _ _ st _ → _ => hK; first | (apply hK; clear hK) | (clear hK; rename ∀ st, Tri _ _ _ st _ → _ => hK; first | (apply hK; clear hK) | (clear hK; rename ∀ st, Tri _ _ _ st _ → _ => hK; apply hK; clear hK)))))) | skip)
        | (intro β)
        | (rename ∀ st, Tri _ _ _ st _ → _ => hK; apply hK; clear hK))
      try simp [upd, h15, h14]
      refine ⟨b3, b2, by simpa [upd] using a1, by simpa [upd] using a2, by simpa [upd] using a3, by simpa [upd] using a4, ?_⟩
      simp [upd, a5, c1, c2, c3, c4]
    by_cases g4 : r.atts[k].out ≤ 4
    case neg =>
      have n1 : ¬ r.atts[k].out = 1 := by omega
      have n2 : ¬ r.atts[k].out = 2 := by omega
      have n3 : ¬ r.atts[k].out = 3 := by omega
      have n4 : ¬ r.atts[k].out = 4 := by omega
      simp only [n1, n2, n3, n4, if_false, Nat.add_zero] at c1 c2 c3 c4
      repeat (first
        | (refine Tri.seq fun K hK => ?_)
        | (refine Tri.region ?_; simp [upd, hn, a1, a2, a3, a4, a5, h15, h14, hk, g1, g4])
        | (refine Tri.draw (by kernel_rfl) (by decide +kernel) ?_; simp [upd, hn, a1, a2, a3, a4, a5, h15, h14, hk, g1, g4])
        | (refine Tri.cond_true ?_ ?_; (focus simp [upd, hn, a1, a2, a3, a4, a5, h15, h14, hk, g1, g4]; done))
        | (refine Tri.cond_false ?_ ?_; (focus simp [upd, hn, a1, a2, a3, a4, a5, h15, h14, hk, g1, g4]; done))
        | (refine Tri.skip ?_; simp only [thenS, blockS])
        | (refine Tri.block_seq ?_)
        | (refine Tri.block_region ?_)
        | (refine Tri.block_cond ?_)
        | (refine Tri.exit ?_; simp [upd, hn, a1, a2, a3, a4, a5, h15, h14, hk, g1, g4]; first | (rename ∀ st, Tri _ _ _ st _ → _ => hK; first | (apply hK; clear hK) | (clear hK; rename ∀ st, Tri _ _ _ st _ → _ => hK; first | (apply hK; clear hK) | (clear hK; rename ∀ st, Tri _ _ _ st _ → _ => hK; first | (apply hK; clear hK) | (clear hK; rename ∀ st, Tri _ _ _ st _ → _ => hK; first | (apply hK; clear hK) | (clear hK; rename ∀ st, Tri _ _ _ st _ → _ => hK; first | (apply hK; clear hK) | (clear hK; rename ∀ st, Tri _ _ _ st _ → _ => hK; apply hK; clear hK)))))) | skip)
        | (intro β)
        | (rename ∀ st, Tri _ _ _ st _ → _ => hK; apply hK; clear hK))
      try simp [upd, h15, h14]
      refine ⟨b3, b2, by simpa [upd] using a1, by simpa [upd] using a2, by simpa [upd] using a3, by simpa [upd] using a4, ?_⟩
      simp [upd, a5, c1, c2, c3, c4]
    have ho : r.atts[k].out = 1 ∨ r.atts[k].out = 2 ∨ r.atts[k].out = 3 ∨ r.atts[k].out = 4 := by omega
    rcases ho with ho | ho | ho | ho <;> (rw [ho] at c1 c2 c3 c4; simp at c1 c2 c3 c4)
    all_goals
      repeat (first
        | (refine Tri.seq fun K hK => ?_)
        | (refine Tri.region ?_; simp [upd, hn, a1, a2, a3, a4, a5, h15, h14, hk, ho, w])
        | (refine Tri.draw (by kernel_rfl) (by decide +kernel) ?_; simp [upd, hn, a1, a2, a3, a4, a5, h15, h14, hk, ho, w])
        | (refine Tri.cond_true ?_ ?_; (focus simp [upd, hn, a1, a2, a3, a4, a5, h15, h14, hk, ho, w]; done))
        | (refine Tri.cond_false ?_ ?_; (focus simp [upd, hn, a1, a2, a3, a4, a5, h15, h14, hk, ho, w]; done))
        | (refine Tri.skip ?_; simp only [thenS, blockS])
        | (refine Tri.block_seq ?_)
        | (refine Tri.block_region ?_)
        | (refine Tri.block_cond ?_)
        | (refine Tri.exit ?_; simp [upd, hn, a1, a2, a3, a4, a5, h15, h14, hk, ho, w]; first | (rename ∀ st, Tri _ _ _ st _ → _ => hK; first | (apply hK; clear hK) | (clear hK; rename ∀ st, Tri _ _ _ st _ → _ => hK; first | (apply hK; clear hK) | (clear hK; rename ∀ st, Tri _ _ _ st _ → _ => hK; first | (apply hK; clear hK) | (clear hK; rename ∀ st, Tri _ _ _ st _ → _ => hK; first | (apply hK; clear hK) | (clear hK; rename ∀ st, Tri _ _ _ st _ → _ => hK; first | (apply hK; clear hK) | (clear hK; rename ∀ st, Tri _ _ _ st _ → _ => hK; apply hK; clear hK)))))) | skip)
        | (intro β)
        | (rename ∀ st, Tri _ _ _ st _ → _ => hK; apply hK; clear hK))
      try simp [upd, h15, h14]
      refine ⟨b3, b2, by simpa [upd] using a1, by simpa [upd] using a2, by simpa [upd] using a3, by simpa [upd] using a4, ?_⟩
      simp [upd, a5, c1, c2, c3, c4]
  · rintro st ⟨b3, b2, a1, a2, a3, a4, a5⟩ hn
    rw [List.take_length] at a5
    apply hK
    repeat (first
      | (refine Tri.seq fun K hK => ?_)
      | (refine Tri.region ?_; simp [upd, hn, a1, a2, a3, a4, a5])
      | (refine Tri.draw (by kernel_rfl) (by decide +kernel) ?_; simp [upd, hn, a1, a2, a3, a4, a5])
      | (refine Tri.cond_true ?_ ?_; (focus simp [upd, hn, a1, a2, a3, a4, a5]; done))
      | (refine Tri.cond_false ?_ ?_; (focus simp [upd, hn, a1, a2, a3, a4, a5]; done))
      | (refine Tri.skip ?_; simp only [thenS, blockS])
      | (refine Tri.block_seq ?_)
      | (refine Tri.block_region ?_)
      | (refine Tri.block_cond ?_)
      | (refine Tri.exit ?_; simp [upd, hn, a1, a2, a3, a4, a5]; first | (rename ∀ st, Tri _ _ _ st _ → _ => hK; first | (apply hK; clear hK) | (clear hK; rename ∀ st, Tri _ _ _ st _ → _ => hK; first | (apply hK; clear hK) | (clear hK; rename ∀ st, Tri _ _ _ st _ → _ => hK; first | (apply hK; clear hK) | (clear hK; rename ∀ st, Tri _ _ _ st _ → _ => hK; first | (apply hK; clear hK) | (clear hK; rename ∀ st, Tri _ _ _ st _ → _ => hK; first | (apply hK; clear hK) | (clear hK; rename ∀ st, Tri _ _ _ st _ → _ => hK; apply hK; clear hK)))))) | skip)
      | (intro β)
      | (rename ∀ st, Tri _ _ _ st _ → _ => hK; apply hK; clear hK))
    refine Tri.ret ⟨.agg (counts r), by simp [upd, a3, counts], ?_⟩
    exact Wk.refl _
end Go.Proofs.Ytcohdlochpjnjaa
end
section
open Go Go.Vm
namespace Go.Proofs.Ytcohdlochpjnjaa
set_option maxRecDepth 100000
set_option maxHeartbeats 1000000
set_option linter.unusedSimpArgs false
attribute [local irreducible] Tri Does DoesB Rounds
def fA (s : Int) (l : List Att) : List Att := l.filter fun a => decide (a.slot < s)
def fD (s : Int) (l : List Del) : List Del := l.filter fun d => decide (d.slot < s)
def cut (r : Rec) (s : Int) : Rec × Int := if check r = 0 then (if s < 0 ∨ r.slots < s then (zrec, 2) else (⟨s, (fA s r.atts).isEmpty, fA s r.atts, (fD s r.dels).isEmpty, fD s r.dels⟩, 0)) else (zrec, 1)
theorem fA_take (s : Int) (l : List Att) (k : Nat) (hk : k < l.length) : fA s (l.take (k + 1)) = fA s (l.take k) ++ if l[k].slot < s then [l[k]] else [] := by
  unfold fA
  rw [List.take_succ_eq_append_getElem hk, List.filter_append]
  congr 1
  by_cases h : l[k].slot < s <;> simp [h]
theorem fD_take (s : Int) (l : List Del) (k : Nat) (hk : k < l.length) : fD s (l.take (k + 1)) = fD s (l.take k) ++ if l[k].slot < s then [l[k]] else [] := by
  unfold fD
  rw [List.take_succ_eq_append_getElem hk, List.filter_append]
  congr 1
  by_cases h : l[k].slot < s <;> simp [h]
theorem fA_le (s : Int) (l : List Att) (k : Nat) : (fA s (l.take k)).length ≤ k := Nat.le_trans (List.length_filter_le ..) (List.length_take_le ..)
theorem fD_le (s : Int) (l : List Del) (k : Nat) : (fD s (l.take k)).length ≤ k := Nat.le_trans (List.length_filter_le ..) (List.length_take_le ..)
structure XI (r : Rec) (s : Int) (st : St) (b2 b4 b6 : Nat) (G H : C) : Prop where
  hn : st.n = 71
  s1 : st.sl 1 = .c (.int .i64 s)
  s2 : st.sl 2 = .c (.box 2 b2 0)
  x2 : st.bx 2 = some (b2, [.int .i64 r.slots, .sl r.an 8 none (r.atts.map attC), .sl r.dn 3 none (r.dels.map delC)])
  s4 : st.sl 4 = .c (.box 4 b4 0)
  x4 : st.bx 4 = some (b4, [.int .i64 0, .sl true 0 none [], .sl true 0 none []])
  s6 : st.sl 6 = .c (.box 6 b6 0)
  x6 : st.bx 6 = some (b6, [.int .i64 s, G, H])
def XInv1 (r : Rec) (s : Int) (k : Nat) (st : St) : Prop := ∃ b2 b4 b6 G, XI r s st b2 b4 b6 G (.sl true 0 none []) ∧ st.sl 30 = .c (.sl r.an 8 none (r.atts.map attC)) ∧ GC st G 45 45 8 ((fA s (r.atts.take k)).map attC)
def XInv2 (r : Rec) (s : Int) (k : Nat) (st : St) : Prop := ∃ b2 b4 b6 G H, XI r s st b2 b4 b6 G H ∧ st.sl 51 = .c (.sl r.dn 3 none (r.dels.map delC)) ∧ GC st G 45 45 8 ((fA s r.atts).map attC) ∧ GC st H 66 62 3 ((fD s (r.dels.take k)).map delC)
theorem XI.put {r : Rec} {s : Int} {st : St} {b2 b4 b6 : Nat} {G H : C} (h : XI r s st b2 b4 b6 G H) (t : Nat) (v : V) (ht : t ≠ 1 ∧ t ≠ 2 ∧ t ≠ 4 ∧ t ≠ 6) : XI r s (st.put (some t) v) b2 b4 b6 G H := by
  obtain ⟨h1, h2, h3, h4⟩ := ht
  exact ⟨h.hn, by simp [upd, h1.symm, h.s1], by simp [upd, h2.symm, h.s2], h.x2, by simp [upd, h3.symm, h.s4], h.x4, by simp [upd, h4.symm, h.s6], h.x6⟩
theorem cut_does (r : Rec) (s : Int) : Does Try.prog 30 [.agg (recC r), .c (.int .i64 s)] (.tup [.agg (recC (cut r s).1), .c (.int .i64 (cut r s).2)]) := by
  refine Does.of_body Try.func30 rfl (by kernel_rfl) rfl rfl (by simp) ?_
  intro E
  have hck := check_does r
  have wZ : Wk (.agg [.int .i64 0, .sl true 0 none [], .sl true 0 none []]) (.agg (recC zrec)) := .agg3 (.refl _) (.nil _ _ _ _) (.nil _ _ _ _)
  cases hc : (check r == 0)
  case false =>
    have e : cut r s = (zrec, 1) := by rw [cut, if_neg (by simpa using hc)]
    rw [e]
    simp only [recC] at hck ⊢
    repeat (first
      | (refine Tri.seq fun K hK => ?_)
      | (refine Tri.region ?_; simp [upd, hc, bne])
      | (refine Tri.draw (by kernel_rfl) (by decide +kernel) ?_; simp [upd, hc, bne])
      | (refine Tri.cond_true ?_ ?_; (focus simp [upd, hc, bne]; done))
      | (refine Tri.cond_false ?_ ?_; (focus simp [upd, hc, bne]; done))
      | (refine Tri.skip ?_; simp only [thenS, blockS])
      | (refine Tri.block_seq ?_)
      | (refine Tri.block_region ?_)
      | (refine Tri.block_cond ?_)
      | ((with_reducible refine CallK.pure (hck) (Wks.refl _) ?_); simp [upd, hc, bne])
      | (refine Tri.exit ?_; simp [upd, hc, bne]; first | (rename ∀ st, Tri _ _ _ st _ → _ => hK; first | (apply hK; clear hK) | (clear hK; rename ∀ st, Tri _ _ _ st _ → _ => hK; first | (apply hK; clear hK) | (clear hK; rename ∀ st, Tri _ _ _ st _ → _ => hK; first | (apply hK; clear hK) | (clear hK; rename ∀ st, Tri _ _ _ st _ → _ => hK; first | (apply hK; clear hK) | (clear hK; rename ∀ st, Tri _ _ _ st _ → _ => hK; first | (apply hK; clear hK) | (clear hK; rename ∀ st, Tri _ _ _ st _ → _ => hK; apply hK; clear hK)))))) | skip)
      | (intro β)
      | (rename ∀ st, Tri _ _ _ st _ → _ => hK; apply hK; clear hK))
    refine Tri.ret ⟨.tup [.agg [.int .i64 0, .sl true 0 none [], .sl true 0 none []], .c (.int .i64 1)], by simp [upd], ?_⟩
    exact .tup2 wZ (.refl _)
  have hc0 : check r = 0 := by simpa using hc
  by_cases g1 : s < 0
  · have e : cut r s = (zrec, 2) := by rw [cut, if_pos hc0, if_pos (.inl g1)]
    rw [e]
    simp only [recC] at hck ⊢
    repeat (first
      | (refine Tri.seq fun K hK => ?_)
      | (refine Tri.region ?_; simp [upd, hc, bne, g1])
      | (refine Tri.draw (by kernel_rfl) (by decide +kernel) ?_; simp [upd, hc, bne, g1])
      | (refine Tri.cond_true ?_ ?_; (focus simp [upd, hc, bne, g1]; done))
      | (refine Tri.cond_false ?_ ?_; (focus simp [upd, hc, bne, g1]; done))
      | (refine Tri.skip ?_; simp only [thenS, blockS])
      | (refine Tri.block_seq ?_)
      | (refine Tri.block_region ?_)
      | (refine Tri.block_cond ?_)
      | ((with_reducible refine CallK.pure (hck) (Wks.refl _) ?_); simp [upd, hc, bne, g1])
      | (refine Tri.exit ?_; simp [upd, hc, bne, g1]; first | (rename ∀ st, Tri _ _ _ st _ → _ => hK; first | (apply hK; clear hK) | (clear hK; rename ∀ st, Tri _ _ _ st _ → _ => hK; first | (apply hK; clear hK) | (clear hK; rename ∀ st, Tri _ _ _ st _ → _ => hK; first | (apply hK; clear hK) | (clear hK; rename ∀ st, Tri _ _ _ st _ → _ => hK; first | (apply hK; clear hK) | (clear hK; rename ∀ st, Tri _ _ _ st _ → _ => hK; first | (apply hK; clear hK) | (clear hK; rename ∀ st, Tri _ _ _ st _ → _ => hK; apply hK; clear hK)))))) | skip)
      | (intro β)
      | (rename ∀ st, Tri _ _ _ st _ → _ => hK; apply hK; clear hK))
    refine Tri.ret ⟨.tup [.agg [.int .i64 0, .sl true 0 none [], .sl true 0 none []], .c (.int .i64 2)], by simp [upd], ?_⟩
    exact .tup2 wZ (.refl _)
  by_cases g2 : r.slots < s
  · have e : cut r s = (zrec, 2) := by rw [cut, if_pos hc0, if_pos (.inr g2)]
    rw [e]
    simp only [recC] at hck ⊢
    repeat (first
      | (refine Tri.seq fun K hK => ?_)
      | (refine Tri.region ?_; simp [upd, hc, bne, g1, g2])
      | (refine Tri.draw (by kernel_rfl) (by decide +kernel) ?_; simp [upd, hc, bne, g1, g2])
      | (refine Tri.cond_true ?_ ?_; (focus simp [upd, hc, bne, g1, g2]; done))
      | (refine Tri.cond_false ?_ ?_; (focus simp [upd, hc, bne, g1, g2]; done))
      | (refine Tri.skip ?_; simp only [thenS, blockS])
      | (refine Tri.block_seq ?_)
      | (refine Tri.block_region ?_)
      | (refine Tri.block_cond ?_)
      | ((with_reducible refine CallK.pure (hck) (Wks.refl _) ?_); simp [upd, hc, bne, g1, g2])
      | (refine Tri.exit ?_; simp [upd, hc, bne, g1, g2]; first | (rename ∀ st, Tri _ _ _ st _ → _ => hK; first | (apply hK; clear hK) | (clear hK; rename ∀ st, Tri _ _ _ st _ → _ => hK; first | (apply hK; clear hK) | (clear hK; rename ∀ st, Tri _ _ _ st _ → _ => hK; first | (apply hK; clear hK) | (clear hK; rename ∀ st, Tri _ _ _ st _ → _ => hK; first | (apply hK; clear hK) | (clear hK; rename ∀ st, Tri _ _ _ st _ → _ => hK; first | (apply hK; clear hK) | (clear hK; rename ∀ st, Tri _ _ _ st _ → _ => hK; apply hK; clear hK)))))) | skip)
      | (intro β)
      | (rename ∀ st, Tri _ _ _ st _ → _ => hK; apply hK; clear hK))
    refine Tri.ret ⟨.tup [.agg [.int .i64 0, .sl true 0 none [], .sl true 0 none []], .c (.int .i64 2)], by simp [upd], ?_⟩
    exact .tup2 wZ (.refl _)
  have e : cut r s = (⟨s, (fA s r.atts).isEmpty, fA s r.atts, (fD s r.dels).isEmpty, fD s r.dels⟩, 0) := by rw [cut, if_pos hc0, if_neg (by omega)]
  rw [e]
  simp only [recC] at hck ⊢
  obtain ⟨hl1, hl2⟩ := check_lens hc0
  repeat (first
    | (refine Tri.seq fun K hK => ?_)
    | (refine Tri.region ?_; simp [upd, hc, bne, g1, g2])
    | (refine Tri.draw (by kernel_rfl) (by decide +kernel) ?_; simp [upd, hc, bne, g1, g2])
    | (refine Tri.cond_true ?_ ?_; (focus simp [upd, hc, bne, g1, g2]; done))
    | (refine Tri.cond_false ?_ ?_; (focus simp [upd, hc, bne, g1, g2]; done))
    | (refine Tri.skip ?_; simp only [thenS, blockS])
    | (refine Tri.block_seq ?_)
    | (refine Tri.block_region ?_)
    | (refine Tri.block_cond ?_)
    | ((with_reducible refine CallK.pure (hck) (Wks.refl _) ?_); simp [upd, hc, bne, g1, g2])
    | (refine Tri.exit ?_; simp [upd, hc, bne, g1, g2]; first | (rename ∀ st, Tri _ _ _ st _ → _ => hK; first | (apply hK; clear hK) | (clear hK; rename ∀ st, Tri _ _ _ st _ → _ => hK; first | (apply hK; clear hK) | (clear hK; rename ∀ st, Tri _ _ _ st _ → _ => hK; first | (apply hK; clear hK) | (clear hK; rename ∀ st, Tri _ _ _ st _ → _ => hK; first | (apply hK; clear hK) | (clear hK; rename ∀ st, Tri _ _ _ st _ → _ => hK; first | (apply hK; clear hK) | (clear hK; rename ∀ st, Tri _ _ _ st _ → _ => hK; apply hK; clear hK)))))) | skip)
    | (intro β)
    | (rename ∀ st, Tri _ _ _ st _ → _ => hK; apply hK; clear hK))
  refine Tri.range 32 31 33 48 71 rfl rfl r.atts.length (XInv1 r s) (by simp) (by omega) ?_ rfl (by simp [upd]) (by simp [upd]) ?_ ?_ ?_
  · rintro k st t v ht ⟨b2, b4, b6, G, h, h30, hG⟩
    refine ⟨b2, b4, b6, G, h.put t v (by omega), ?_, hG.put _ _⟩
    rcases ht with rfl | rfl | rfl <;> simpa [upd] using h30
  · exact ⟨_, _, _, .sl true 0 none [], ⟨rfl, by simp [upd], by simp [upd] <;> exact rfl, by simp [upd] <;> exact rfl, by simp [upd] <;> exact rfl, by simp [upd] <;> exact rfl, by simp [upd] <;> exact rfl, by simp [upd] <;> exact rfl⟩, by simp [upd], .inl ⟨rfl, _, _, rfl⟩⟩
  · rintro k st hk ⟨b2, b4, b6, G, ⟨-, s1, s2, x2, s4, x4, s6, x6⟩, h30, hG⟩ hn h32 h31
    have ht := fA_take s r.atts k hk
    have hle := fA_le s r.atts k
    by_cases hs : r.atts[k].slot < s
    case neg =>
      rw [if_neg hs, List.append_nil] at ht
      repeat (first
        | (refine Tri.seq fun K hK => ?_)
        | (refine Tri.region ?_; simp [upd, hn, s1, s2, x2, s4, x4, s6, x6, h30, h32, h31, hk, hs])
        | (refine Tri.draw (by kernel_rfl) (by decide +kernel) ?_; simp [upd, hn, s1, s2, x2, s4, x4, s6, x6, h30, h32, h31, hk, hs])
        | (refine Tri.cond_true ?_ ?_; (focus simp [upd, hn, s1, s2, x2, s4, x4, s6, x6, h30, h32, h31, hk, hs]; done))
        | (refine Tri.cond_false ?_ ?_; (focus simp [upd, hn, s1, s2, x2, s4, x4, s6, x6, h30, h32, h31, hk, hs]; done))
        | (refine Tri.skip ?_; simp only [thenS, blockS])
        | (refine Tri.block_seq ?_)
        | (refine Tri.block_region ?_)
        | (refine Tri.block_cond ?_)
        | (refine Tri.exit ?_; simp [upd, hn, s1, s2, x2, s4, x4, s6, x6, h30, h32, h31, hk, hs]; first | (rename ∀ st, Tri _ _ _ st _ → _ => hK; first | (apply hK; clear hK) | (clear hK; rename ∀ st, Tri _ _ _ st _ → _ => hK; first | (apply hK; clear hK) | (clear hK; rename ∀ st, Tri _ _ _ st _ → _ => hK; first | (apply hK; clear hK) | (clear hK; rename ∀ st, Tri _ _ _ st _ → _ => hK; first | (apply hK; clear hK) | (clear hK; rename ∀ st, Tri _ _ _ st _ → _ => hK; first | (apply hK; clear hK) | (clear hK; rename ∀ st, Tri _ _ _ st _ → _ => hK; apply hK; clear hK)))))) | skip)
        | (intro β)
        | (rename ∀ st, Tri _ _ _ st _ → _ => hK; apply hK; clear hK))
      try simp [upd, h32, h31]
      exact ⟨b2, b4, b6, G, ⟨rfl, by simpa [upd] using s1, by simpa [upd] using s2, by simpa [upd] using x2, by simpa [upd] using s4, by simpa [upd] using x4, by simpa [upd] using s6, by simp [upd, x6] <;> exact rfl⟩, by simpa [upd] using h30, by simpa [GC, ht] using hG⟩
    rw [if_pos hs] at ht
    generalize fA s (r.atts.take k) = acc at *
    rcases hG with ⟨hnil, k0, own, rfl⟩ | ⟨b, hne, rfl, hrw⟩
    · have hacc : acc = [] := by simpa using hnil
      subst hacc
      repeat (first
        | (refine Tri.seq fun K hK => ?_)
        | (refine Tri.region ?_; simp [upd, hn, s1, s2, x2, s4, x4, s6, x6, h30, h32, h31, hk, hs])
        | (refine Tri.draw (by kernel_rfl) (by decide +kernel) ?_; simp [upd, hn, s1, s2, x2, s4, x4, s6, x6, h30, h32, h31, hk, hs])
        | (refine Tri.cond_true ?_ ?_; (focus simp [upd, hn, s1, s2, x2, s4, x4, s6, x6, h30, h32, h31, hk, hs]; done))
        | (refine Tri.cond_false ?_ ?_; (focus simp [upd, hn, s1, s2, x2, s4, x4, s6, x6, h30, h32, h31, hk, hs]; done))
        | (refine Tri.skip ?_; simp only [thenS, blockS])
        | (refine Tri.block_seq ?_)
        | (refine Tri.block_region ?_)
        | (refine Tri.block_cond ?_)
        | (refine Tri.exit ?_; simp [upd, hn, s1, s2, x2, s4, x4, s6, x6, h30, h32, h31, hk, hs]; first | (rename ∀ st, Tri _ _ _ st _ → _ => hK; first | (apply hK; clear hK) | (clear hK; rename ∀ st, Tri _ _ _ st _ → _ => hK; first | (apply hK; clear hK) | (clear hK; rename ∀ st, Tri _ _ _ st _ → _ => hK; first | (apply hK; clear hK) | (clear hK; rename ∀ st, Tri _ _ _ st _ → _ => hK; first | (apply hK; clear hK) | (clear hK; rename ∀ st, Tri _ _ _ st _ → _ => hK; first | (apply hK; clear hK) | (clear hK; rename ∀ st, Tri _ _ _ st _ → _ => hK; apply hK; clear hK)))))) | skip)
        | (intro β)
        | (rename ∀ st, Tri _ _ _ st _ → _ => hK; apply hK; clear hK))
      try simp [upd, h32, h31]
      exact ⟨b2, b4, b6, .sl false 8 (some (45, β)) ([r.atts[k]].map attC), ⟨rfl, by simpa [upd] using s1, by simpa [upd] using s2, by simpa [upd] using x2, by simpa [upd] using s4, by simpa [upd] using x4, by simpa [upd] using s6, by simp [upd, x6] <;> exact rfl⟩, by simpa [upd] using h30, .inr ⟨β, by simp [ht], by simp [ht], by simp [ht, upd]⟩⟩
    · have hb : (acc.length + 1) * 64 ≤ 140737488355328 := by omega
      rw [List.length_map] at hrw
      repeat (first
        | (refine Tri.seq fun K hK => ?_)
        | (refine Tri.region ?_; simp [upd, hn, s1, s2, x2, s4, x4, s6, x6, h30, h32, h31, hk, hs, hb, hrw])
        | (refine Tri.draw (by kernel_rfl) (by decide +kernel) ?_; simp [upd, hn, s1, s2, x2, s4, x4, s6, x6, h30, h32, h31, hk, hs, hb, hrw])
        | (refine Tri.cond_true ?_ ?_; (focus simp [upd, hn, s1, s2, x2, s4, x4, s6, x6, h30, h32, h31, hk, hs, hb, hrw]; done))
        | (refine Tri.cond_false ?_ ?_; (focus simp [upd, hn, s1, s2, x2, s4, x4, s6, x6, h30, h32, h31, hk, hs, hb, hrw]; done))
        | (refine Tri.skip ?_; simp only [thenS, blockS])
        | (refine Tri.block_seq ?_)
        | (refine Tri.block_region ?_)
        | (refine Tri.block_cond ?_)
        | (refine Tri.exit ?_; simp [upd, hn, s1, s2, x2, s4, x4, s6, x6, h30, h32, h31, hk, hs, hb, hrw]; first | (rename ∀ st, Tri _ _ _ st _ → _ => hK; first | (apply hK; clear hK) | (clear hK; rename ∀ st, Tri _ _ _ st _ → _ => hK; first | (apply hK; clear hK) | (clear hK; rename ∀ st, Tri _ _ _ st _ → _ => hK; first | (apply hK; clear hK) | (clear hK; rename ∀ st, Tri _ _ _ st _ → _ => hK; first | (apply hK; clear hK) | (clear hK; rename ∀ st, Tri _ _ _ st _ → _ => hK; first | (apply hK; clear hK) | (clear hK; rename ∀ st, Tri _ _ _ st _ → _ => hK; apply hK; clear hK)))))) | skip)
        | (intro β)
        | (rename ∀ st, Tri _ _ _ st _ → _ => hK; apply hK; clear hK))
      try simp [upd, h32, h31]
      exact ⟨b2, b4, b6, .sl false 8 (some (45, β)) ((acc ++ [r.atts[k]]).map attC), ⟨rfl, by simpa [upd] using s1, by simpa [upd] using s2, by simpa [upd] using x2, by simpa [upd] using s4, by simpa [upd] using x4, by simpa [upd] using s6, by simp [upd, x6] <;> exact rfl⟩, by simpa [upd] using h30, .inr ⟨β, by simp [ht], by simp [ht], by simp [ht, upd]⟩⟩
  · rintro st ⟨b2, b4, b6, G, ⟨-, s1, s2, x2, s4, x4, s6, x6⟩, h30, hG⟩ hn
    rw [List.take_length] at hG
    apply hK
    repeat (first
      | (refine Tri.seq fun K hK => ?_)
      | (refine Tri.region ?_; simp [upd, hn, s1, s2, x2, s4, x4, s6, x6])
      | (refine Tri.draw (by kernel_rfl) (by decide +kernel) ?_; simp [upd, hn, s1, s2, x2, s4, x4, s6, x6])
      | (refine Tri.cond_true ?_ ?_; (focus simp [upd, hn, s1, s2, x2, s4, x4, s6, x6]; done))
      | (refine Tri.cond_false ?_ ?_; (focus simp [upd, hn, s1, s2, x2, s4, x4, s6, x6]; done))
      | (refine Tri.skip ?_; simp only [thenS, blockS])
      | (refine Tri.block_seq ?_)
      | (refine Tri.block_region ?_)
      | (refine Tri.block_cond ?_)
      | (refine Tri.exit ?_; simp [upd, hn, s1, s2, x2, s4, x4, s6, x6]; first | (rename ∀ st, Tri _ _ _ st _ → _ => hK; first | (apply hK; clear hK) | (clear hK; rename ∀ st, Tri _ _ _ st _ → _ => hK; first | (apply hK; clear hK) | (clear hK; rename ∀ st, Tri _ _ _ st _ → _ => hK; first | (apply hK; clear hK) | (clear hK; rename ∀ st, Tri _ _ _ st _ → _ => hK; first | (apply hK; clear hK) | (clear hK; rename ∀ st, Tri _ _ _ st _ → _ => hK; first | (apply hK; clear hK) | (clear hK; rename ∀ st, Tri _ _ _ st _ → _ => hK; apply hK; clear hK)))))) | skip)
      | (intro β)
      | (rename ∀ st, Tri _ _ _ st _ → _ => hK; apply hK; clear hK))
    refine Tri.range 53 52 54 69 71 rfl rfl r.dels.length (XInv2 r s) (by simp) (by omega) ?_ rfl (by simp [upd]) (by simp [upd]) ?_ ?_ ?_
    · rintro k st t v ht ⟨b2, b4, b6, G, H, h, h51, hG, hH⟩
      refine ⟨b2, b4, b6, G, H, h.put t v (by omega), ?_, hG.put _ _, hH.put _ _⟩
      rcases ht with rfl | rfl | rfl <;> simpa [upd] using h51
    · exact ⟨b2, b4, b6, G, .sl true 0 none [], ⟨rfl, by simpa [upd] using s1, by simpa [upd] using s2, by simpa [upd] using x2, by simpa [upd] using s4, by simpa [upd] using x4, by simpa [upd] using s6, by simp [upd, x6] <;> exact rfl⟩, by simp [upd], by simpa [GC] using hG, .inl ⟨rfl, _, _, rfl⟩⟩
    · rintro k st hk ⟨b2, b4, b6, G, H, ⟨-, s1, s2, x2, s4, x4, s6, x6⟩, h51, hG, hH⟩ hn h53 h52
      have ht := fD_take s r.dels k hk
      have hle := fD_le s r.dels k
      by_cases hs : r.dels[k].slot < s
      case neg =>
        rw [if_neg hs, List.append_nil] at ht
        repeat (first
          | (refine Tri.seq fun K hK => ?_)
          | (refine Tri.region ?_; simp [upd, hn, s1, s2, x2, s4, x4, s6, x6, h51, h53, h52, hk, hs])
          | (refine Tri.draw (by kernel_rfl) (by decide +kernel) ?_; simp [upd, hn, s1, s2, x2, s4, x4, s6, x6, h51, h53, h52, hk, hs])
          | (refine Tri.cond_true ?_ ?_; (focus simp [upd, hn, s1, s2, x2, s4, x4, s6, x6, h51, h53, h52, hk, hs]; done))
          | (refine Tri.cond_false ?_ ?_; (focus simp [upd, hn, s1, s2, x2, s4, x4, s6, x6, h51, h53, h52, hk, hs]; done))
          | (refine Tri.skip ?_; simp only [thenS, blockS])
          | (refine Tri.block_seq ?_)
          | (refine Tri.block_region ?_)
          | (refine Tri.block_cond ?_)
          | (refine Tri.exit ?_; simp [upd, hn, s1, s2, x2, s4, x4, s6, x6, h51, h53, h52, hk, hs]; first | (rename ∀ st, Tri _ _ _ st _ → _ => hK; first | (apply hK; clear hK) | (clear hK; rename ∀ st, Tri _ _ _ st _ → _ => hK; first | (apply hK; clear hK) | (clear hK; rename ∀ st, Tri _ _ _ st _ → _ => hK; first | (apply hK; clear hK) | (clear hK; rename ∀ st, Tri _ _ _ st _ → _ => hK; first | (apply hK; clear hK) | (clear hK; rename ∀ st, Tri _ _ _ st _ → _ => hK; first | (apply hK; clear hK) | (clear hK; rename ∀ st, Tri _ _ _ st _ → _ => hK; apply hK; clear hK)))))) | skip)
          | (intro β)
          | (rename ∀ st, Tri _ _ _ st _ → _ => hK; apply hK; clear hK))
        try simp [upd, h53, h52]
        exact ⟨b2, b4, b6, G, H, ⟨rfl, by simpa [upd] using s1, by simpa [upd] using s2, by simpa [upd] using x2, by simpa [upd] using s4, by simpa [upd] using x4, by simpa [upd] using s6, by simp [upd, x6] <;> exact rfl⟩, by simpa [upd] using h51, by simpa [GC] using hG, by simpa [GC, ht] using hH⟩
      rw [if_pos hs] at ht
      generalize fD s (r.dels.take k) = acc at *
      rcases hH with ⟨hnil, k0, own, rfl⟩ | ⟨b, hne, rfl, hrw⟩
      · have hacc : acc = [] := by simpa using hnil
        subst hacc
        repeat (first
          | (refine Tri.seq fun K hK => ?_)
          | (refine Tri.region ?_; simp [upd, hn, s1, s2, x2, s4, x4, s6, x6, h51, h53, h52, hk, hs])
          | (refine Tri.draw (by kernel_rfl) (by decide +kernel) ?_; simp [upd, hn, s1, s2, x2, s4, x4, s6, x6, h51, h53, h52, hk, hs])
          | (refine Tri.cond_true ?_ ?_; (focus simp [upd, hn, s1, s2, x2, s4, x4, s6, x6, h51, h53, h52, hk, hs]; done))
          | (refine Tri.cond_false ?_ ?_; (focus simp [upd, hn, s1, s2, x2, s4, x4, s6, x6, h51, h53, h52, hk, hs]; done))
          | (refine Tri.skip ?_; simp only [thenS, blockS])
          | (refine Tri.block_seq ?_)
          | (refine Tri.block_region ?_)
          | (refine Tri.block_cond ?_)
          | (refine Tri.exit ?_; simp [upd, hn, s1, s2, x2, s4, x4, s6, x6, h51, h53, h52, hk, hs]; first | (rename ∀ st, Tri _ _ _ st _ → _ => hK; first | (apply hK; clear hK) | (clear hK; rename ∀ st, Tri _ _ _ st _ → _ => hK; first | (apply hK; clear hK) | (clear hK; rename ∀ st, Tri _ _ _ st _ → _ => hK; first | (apply hK; clear hK) | (clear hK; rename ∀ st, Tri _ _ _ st _ → _ => hK; first | (apply hK; clear hK) | (clear hK; rename ∀ st, Tri _ _ _ st _ → _ => hK; first | (apply hK; clear hK) | (clear hK; rename ∀ st, Tri _ _ _ st _ → _ => hK; apply hK; clear hK)))))) | skip)
          | (intro β)
          | (rename ∀ st, Tri _ _ _ st _ → _ => hK; apply hK; clear hK))
        try simp [upd, h53, h52]
        exact ⟨b2, b4, b6, G, .sl false 3 (some (66, β)) ([r.dels[k]].map delC), ⟨rfl, by simpa [upd] using s1, by simpa [upd] using s2, by simpa [upd] using x2, by simpa [upd] using s4, by simpa [upd] using x4, by simpa [upd] using s6, by simp [upd, x6] <;> exact rfl⟩, by simpa [upd] using h51, by simpa [GC, upd] using hG, .inr ⟨β, by simp [ht], by simp [ht], by simp [ht, upd]⟩⟩
      · have hb : (acc.length + 1) * 24 ≤ 140737488355328 := by omega
        rw [List.length_map] at hrw
        repeat (first
          | (refine Tri.seq fun K hK => ?_)
          | (refine Tri.region ?_; simp [upd, hn, s1, s2, x2, s4, x4, s6, x6, h51, h53, h52, hk, hs, hb, hrw])
          | (refine Tri.draw (by kernel_rfl) (by decide +kernel) ?_; simp [upd, hn, s1, s2, x2, s4, x4, s6, x6, h51, h53, h52, hk, hs, hb, hrw])
          | (refine Tri.cond_true ?_ ?_; (focus simp [upd, hn, s1, s2, x2, s4, x4, s6, x6, h51, h53, h52, hk, hs, hb, hrw]; done))
          | (refine Tri.cond_false ?_ ?_; (focus simp [upd, hn, s1, s2, x2, s4, x4, s6, x6, h51, h53, h52, hk, hs, hb, hrw]; done))
          | (refine Tri.skip ?_; simp only [thenS, blockS])
          | (refine Tri.block_seq ?_)
          | (refine Tri.block_region ?_)
          | (refine Tri.block_cond ?_)
          | (refine Tri.exit ?_; simp [upd, hn, s1, s2, x2, s4, x4, s6, x6, h51, h53, h52, hk, hs, hb, hrw]; first | (rename ∀ st, Tri _ _ _ st _ → _ => hK; first | (apply hK; clear hK) | (clear hK; rename ∀ st, Tri _ _ _ st _ → _ => hK; first | (apply hK; clear hK) | (clear hK; rename ∀ st, Tri _ _ _ st _ → _ => hK; first | (apply hK; clear hK) | (clear hK; rename ∀ st, Tri _ _ _ st _ → _ => hK; first | (apply hK; clear hK) | (clear hK; rename ∀ st, Tri _ _ _ st _ → _ => hK; first | (apply hK; clear hK) | (clear hK; rename ∀ st, Tri _ _ _ st _ → _ => hK; apply hK; clear hK)))))) | skip)
          | (intro β)
          | (rename ∀ st, Tri _ _ _ st _ → _ => hK; apply hK; clear hK))
        try simp [upd, h53, h52]
        exact ⟨b2, b4, b6, G, .sl false 3 (some (66, β)) ((acc ++ [r.dels[k]]).map delC), ⟨rfl, by simpa [upd] using s1, by simpa [upd] using s2, by simpa [upd] using x2, by simpa [upd] using s4, by simpa [upd] using x4, by simpa [upd] using s6, by simp [upd, x6] <;> exact rfl⟩, by simpa [upd] using h51, by simpa [GC, upd] using hG, .inr ⟨β, by simp [ht], by simp [ht], by simp [ht, upd]⟩⟩
    · rintro st ⟨b2, b4, b6, G, H, ⟨-, s1, s2, x2, s4, x4, s6, x6⟩, h51, hG, hH⟩ hn
      rw [List.take_length] at hH
      rename ∀ st, Tri _ _ _ st _ → _ => hK
      apply hK
      have wG : Wk (.c G) (.c (.sl (fA s r.atts).isEmpty 8 none ((fA s r.atts).map attC))) := by simpa using GC.wk hG
      have wH : Wk (.c H) (.c (.sl (fD s r.dels).isEmpty 3 none ((fD s r.dels).map delC))) := by simpa using GC.wk hH
      obtain ⟨nl1, n1, o1, es1, rfl⟩ := hG.sl
      obtain ⟨nl2, n2, o2, es2, rfl⟩ := hH.sl
      repeat (first
        | (refine Tri.seq fun K hK => ?_)
        | (refine Tri.region ?_; simp [upd, hn, s1, s2, x2, s4, x4, s6, x6])
        | (refine Tri.draw (by kernel_rfl) (by decide +kernel) ?_; simp [upd, hn, s1, s2, x2, s4, x4, s6, x6])
        | (refine Tri.cond_true ?_ ?_; (focus simp [upd, hn, s1, s2, x2, s4, x4, s6, x6]; done))
        | (refine Tri.cond_false ?_ ?_; (focus simp [upd, hn, s1, s2, x2, s4, x4, s6, x6]; done))
        | (refine Tri.skip ?_; simp only [thenS, blockS])
        | (refine Tri.block_seq ?_)
        | (refine Tri.block_region ?_)
        | (refine Tri.block_cond ?_)
        | (refine Tri.exit ?_; simp [upd, hn, s1, s2, x2, s4, x4, s6, x6]; first | (rename ∀ st, Tri _ _ _ st _ → _ => hK; first | (apply hK; clear hK) | (clear hK; rename ∀ st, Tri _ _ _ st _ → _ => hK; first | (apply hK; clear hK) | (clear hK; rename ∀ st, Tri _ _ _ st _ → _ => hK; first | (apply hK; clear hK) | (clear hK; rename ∀ st, Tri _ _ _ st _ → _ => hK; first | (apply hK; clear hK) | (clear hK; rename ∀ st, Tri _ _ _ st _ → _ => hK; first | (apply hK; clear hK) | (clear hK; rename ∀ st, Tri _ _ _ st _ → _ => hK; apply hK; clear hK)))))) | skip)
        | (intro β)
        | (rename ∀ st, Tri _ _ _ st _ → _ => hK; apply hK; clear hK))
      refine Tri.ret ⟨.tup [.agg [.int .i64 s, .sl nl1 n1 o1 es1, .sl nl2 n2 o2 es2], .c (.int .i64 0)], by simp [upd, s4], ?_⟩
      exact .tup2 (.agg3 (.refl _) wG wH) (.refl _)
end Go.Proofs.Ytcohdlochpjnjaa
end
section
open Go Go.Vm
namespace Go.Proofs.Ytcohdlochpjnjaa
set_option maxRecDepth 100000
set_option maxHeartbeats 1000000
set_option linter.unusedSimpArgs false
attribute [local irreducible] Tri Does DoesB Rounds
def attEq (x y : Att) : Bool := (x.slot == y.slot) && ((x.frame == y.frame) && ((x.cslot == y.cslot) && ((x.off == y.off) && ((x.frm == y.frm) && ((x.to == y.to) && ((x.flow == y.flow) && (x.out == y.out)))))))
def delEq (x y : Del) : Bool := (x.flow == y.flow) && ((x.frame == y.frame) && (x.slot == y.slot))
theorem attEq_iff (x y : Att) : attEq x y = true ↔ x = y := by
  cases x
  cases y
  simp [attEq, and_assoc]
theorem delEq_iff (x y : Del) : delEq x y = true ↔ x = y := by
  cases x
  cases y
  simp [delEq, and_assoc]
noncomputable def sameB (a b : Rec) : Bool := @decide (a.slots = b.slots ∧ a.atts = b.atts ∧ a.dels = b.dels) (Classical.propDecidable _)
theorem sameB_iff (a b : Rec) : sameB a b = true ↔ a.slots = b.slots ∧ a.atts = b.atts ∧ a.dels = b.dels := by
  unfold sameB
  exact @decide_eq_true_iff _ (Classical.propDecidable _)
theorem sameB_false {a b : Rec} (h : ¬ (a.slots = b.slots ∧ a.atts = b.atts ∧ a.dels = b.dels)) : sameB a b = false := by
  cases e : sameB a b
  · rfl
  · exact absurd ((sameB_iff a b).1 e) h
def rC (r : Rec) : List C := [.int .i64 r.slots, .sl r.an 8 none (r.atts.map attC), .sl r.dn 3 none (r.dels.map delC)]
structure SI (a b : Rec) (st : St) (b2 b3 : Nat) : Prop where
  hn : st.n = 76
  s2 : st.sl 2 = .c (.box 2 b2 0)
  x2 : st.bx 2 = some (b2, [.int .i64 a.slots, .sl a.an 8 none (a.atts.map attC), .sl a.dn 3 none (a.dels.map delC)])
  s3 : st.sl 3 = .c (.box 3 b3 0)
  x3 : st.bx 3 = some (b3, [.int .i64 b.slots, .sl b.an 8 none (b.atts.map attC), .sl b.dn 3 none (b.dels.map delC)])
def SInv1 (a b : Rec) (m : Nat) (st : St) : Prop := ∃ i b2 b3, SI a b st b2 b3 ∧ m + i = a.atts.length ∧ st.sl 5 = .c (.int .i64 (i : Nat)) ∧ a.atts.take i = b.atts.take i
def SInv2 (a b : Rec) (m : Nat) (st : St) : Prop := ∃ i b2 b3, SI a b st b2 b3 ∧ m + i = a.dels.length ∧ st.sl 6 = .c (.int .i64 (i : Nat)) ∧ a.dels.take i = b.dels.take i
theorem same_does (a b : Rec) (hl : a.atts.length ≤ 1073741824) (hl2 : a.dels.length ≤ 1073741824) : Does Try.prog 13 [.agg (recC a), .agg (recC b)] (.c (.bool (sameB a b))) := by
  refine Does.of_body Try.func13 rfl (by kernel_rfl) rfl rfl (by simp) ?_
  intro E
  simp only [recC]
  cases g1 : (a.slots == b.slots)
  case false =>
    rw [sameB_false (fun h => by simp [h.1] at g1)]
    repeat (first
      | (refine Tri.seq fun K hK => ?_)
      | (refine Tri.region ?_; simp [upd, g1, bne])
      | (refine Tri.draw (by kernel_rfl) (by decide +kernel) ?_; simp [upd, g1, bne])
      | (refine Tri.cond_true ?_ ?_; (focus simp [upd, g1, bne]; done))
      | (refine Tri.cond_false ?_ ?_; (focus simp [upd, g1, bne]; done))
      | (refine Tri.skip ?_; simp only [thenS, blockS])
      | (refine Tri.block_seq ?_)
      | (refine Tri.block_region ?_)
      | (refine Tri.block_cond ?_)
      | (refine Tri.exit ?_; simp [upd, g1, bne]; first | (rename ∀ st, Tri _ _ _ st _ → _ => hK; first | (apply hK; clear hK) | (clear hK; rename ∀ st, Tri _ _ _ st _ → _ => hK; first | (apply hK; clear hK) | (clear hK; rename ∀ st, Tri _ _ _ st _ → _ => hK; first | (apply hK; clear hK) | (clear hK; rename ∀ st, Tri _ _ _ st _ → _ => hK; first | (apply hK; clear hK) | (clear hK; rename ∀ st, Tri _ _ _ st _ → _ => hK; first | (apply hK; clear hK) | (clear hK; rename ∀ st, Tri _ _ _ st _ → _ => hK; apply hK; clear hK)))))) | skip)
      | (intro β)
      | (rename ∀ st, Tri _ _ _ st _ → _ => hK; apply hK; clear hK))
    refine Tri.ret ⟨_, rfl, ?_⟩
    simp [upd]
    exact Wk.refl _
  cases g2 : ((a.atts.length : Int) == (b.atts.length : Int))
  case false =>
    rw [sameB_false (fun h => by simp [h.2.1] at g2)]
    repeat (first
      | (refine Tri.seq fun K hK => ?_)
      | (refine Tri.region ?_; simp [upd, g1, g2, bne])
      | (refine Tri.draw (by kernel_rfl) (by decide +kernel) ?_; simp [upd, g1, g2, bne])
      | (refine Tri.cond_true ?_ ?_; (focus simp [upd, g1, g2, bne]; done))
      | (refine Tri.cond_false ?_ ?_; (focus simp [upd, g1, g2, bne]; done))
      | (refine Tri.skip ?_; simp only [thenS, blockS])
      | (refine Tri.block_seq ?_)
      | (refine Tri.block_region ?_)
      | (refine Tri.block_cond ?_)
      | (refine Tri.exit ?_; simp [upd, g1, g2, bne]; first | (rename ∀ st, Tri _ _ _ st _ → _ => hK; first | (apply hK; clear hK) | (clear hK; rename ∀ st, Tri _ _ _ st _ → _ => hK; first | (apply hK; clear hK) | (clear hK; rename ∀ st, Tri _ _ _ st _ → _ => hK; first | (apply hK; clear hK) | (clear hK; rename ∀ st, Tri _ _ _ st _ → _ => hK; first | (apply hK; clear hK) | (clear hK; rename ∀ st, Tri _ _ _ st _ → _ => hK; first | (apply hK; clear hK) | (clear hK; rename ∀ st, Tri _ _ _ st _ → _ => hK; apply hK; clear hK)))))) | skip)
      | (intro β)
      | (rename ∀ st, Tri _ _ _ st _ → _ => hK; apply hK; clear hK))
    refine Tri.ret ⟨_, rfl, ?_⟩
    simp [upd]
    exact Wk.refl _
  cases g3 : ((a.dels.length : Int) == (b.dels.length : Int))
  case false =>
    rw [sameB_false (fun h => by simp [h.2.2] at g3)]
    repeat (first
      | (refine Tri.seq fun K hK => ?_)
      | (refine Tri.region ?_; simp [upd, g1, g2, g3, bne])
      | (refine Tri.draw (by kernel_rfl) (by decide +kernel) ?_; simp [upd, g1, g2, g3, bne])
      | (refine Tri.cond_true ?_ ?_; (focus simp [upd, g1, g2, g3, bne]; done))
      | (refine Tri.cond_false ?_ ?_; (focus simp [upd, g1, g2, g3, bne]; done))
      | (refine Tri.skip ?_; simp only [thenS, blockS])
      | (refine Tri.block_seq ?_)
      | (refine Tri.block_region ?_)
      | (refine Tri.block_cond ?_)
      | (refine Tri.exit ?_; simp [upd, g1, g2, g3, bne]; first | (rename ∀ st, Tri _ _ _ st _ → _ => hK; first | (apply hK; clear hK) | (clear hK; rename ∀ st, Tri _ _ _ st _ → _ => hK; first | (apply hK; clear hK) | (clear hK; rename ∀ st, Tri _ _ _ st _ → _ => hK; first | (apply hK; clear hK) | (clear hK; rename ∀ st, Tri _ _ _ st _ → _ => hK; first | (apply hK; clear hK) | (clear hK; rename ∀ st, Tri _ _ _ st _ → _ => hK; first | (apply hK; clear hK) | (clear hK; rename ∀ st, Tri _ _ _ st _ → _ => hK; apply hK; clear hK)))))) | skip)
      | (intro β)
      | (rename ∀ st, Tri _ _ _ st _ → _ => hK; apply hK; clear hK))
    refine Tri.ret ⟨_, rfl, ?_⟩
    simp [upd]
    exact Wk.refl _
  have e1 : a.slots = b.slots := by simpa using g1
  have e2 : a.atts.length = b.atts.length := by
    have : (a.atts.length : Int) = (b.atts.length : Int) := by simpa using g2
    omega
  have e3 : a.dels.length = b.dels.length := by
    have : (a.dels.length : Int) = (b.dels.length : Int) := by simpa using g3
    omega
  repeat (first
    | (refine Tri.seq fun K hK => ?_)
    | (refine Tri.region ?_; simp [upd, g1, g2, g3, bne])
    | (refine Tri.draw (by kernel_rfl) (by decide +kernel) ?_; simp [upd, g1, g2, g3, bne])
    | (refine Tri.cond_true ?_ ?_; (focus simp [upd, g1, g2, g3, bne]; done))
    | (refine Tri.cond_false ?_ ?_; (focus simp [upd, g1, g2, g3, bne]; done))
    | (refine Tri.skip ?_; simp only [thenS, blockS])
    | (refine Tri.block_seq ?_)
    | (refine Tri.block_region ?_)
    | (refine Tri.block_cond ?_)
    | (refine Tri.exit ?_; simp [upd, g1, g2, g3, bne]; first | (rename ∀ st, Tri _ _ _ st _ → _ => hK; first | (apply hK; clear hK) | (clear hK; rename ∀ st, Tri _ _ _ st _ → _ => hK; first | (apply hK; clear hK) | (clear hK; rename ∀ st, Tri _ _ _ st _ → _ => hK; first | (apply hK; clear hK) | (clear hK; rename ∀ st, Tri _ _ _ st _ → _ => hK; first | (apply hK; clear hK) | (clear hK; rename ∀ st, Tri _ _ _ st _ → _ => hK; first | (apply hK; clear hK) | (clear hK; rename ∀ st, Tri _ _ _ st _ → _ => hK; apply hK; clear hK)))))) | skip)
    | (intro β)
    | (rename ∀ st, Tri _ _ _ st _ → _ => hK; apply hK; clear hK))
  rename ∀ st, Tri _ _ _ st _ → _ => hK
  have fin := fun (st : St) (h : ∃ b2 b3, SI a b st b2 b3 ∧ a.atts = b.atts) => hK st ?tail
  case tail =>
    obtain ⟨b2, b3, ⟨hn, s2, x2, s3, x3⟩, hat⟩ := h
    clear hK
    repeat (first
      | (refine Tri.seq fun K hK => ?_)
      | (refine Tri.region ?_; simp [upd, hn, s2, x2, s3, x3])
      | (refine Tri.draw (by kernel_rfl) (by decide +kernel) ?_; simp [upd, hn, s2, x2, s3, x3])
      | (refine Tri.cond_true ?_ ?_; (focus simp [upd, hn, s2, x2, s3, x3]; done))
      | (refine Tri.cond_false ?_ ?_; (focus simp [upd, hn, s2, x2, s3, x3]; done))
      | (refine Tri.skip ?_; simp only [thenS, blockS])
      | (refine Tri.block_seq ?_)
      | (refine Tri.block_region ?_)
      | (refine Tri.block_cond ?_)
      | (refine Tri.exit ?_; simp [upd, hn, s2, x2, s3, x3]; first | (rename ∀ st, Tri _ _ _ st _ → _ => hK; first | (apply hK; clear hK) | (clear hK; rename ∀ st, Tri _ _ _ st _ → _ => hK; first | (apply hK; clear hK) | (clear hK; rename ∀ st, Tri _ _ _ st _ → _ => hK; first | (apply hK; clear hK) | (clear hK; rename ∀ st, Tri _ _ _ st _ → _ => hK; first | (apply hK; clear hK) | (clear hK; rename ∀ st, Tri _ _ _ st _ → _ => hK; first | (apply hK; clear hK) | (clear hK; rename ∀ st, Tri _ _ _ st _ → _ => hK; apply hK; clear hK)))))) | skip)
      | (intro β)
      | (rename ∀ st, Tri _ _ _ st _ → _ => hK; apply hK; clear hK))
    rename ∀ st, Tri _ _ _ st _ → _ => hK
    refine Tri.block (Tri.loop (SInv2 a b) a.dels.length ?_ ?_)
    · exact ⟨0, b2, b3, ⟨rfl, by simpa [upd] using s2, by simpa [upd] using x2, by simpa [upd] using s3, by simpa [upd] using x3⟩, by simp, by simp [upd], by simp⟩
    · clear hn s2 x2 s3 x3
      rintro m st ⟨i, b2, b3, ⟨hn, s2, x2, s3, x3⟩, hm, s6, ht⟩
      by_cases hi : i < a.dels.length
      case neg =>
        have : i = a.dels.length := by omega
        subst this
        rw [List.take_length, e3, List.take_length] at ht
        repeat (first
          | (refine Tri.seq fun K hK => ?_)
          | (refine Tri.region ?_; simp [upd, hn, s2, x2, s3, x3, s6, hi])
          | (refine Tri.draw (by kernel_rfl) (by decide +kernel) ?_; simp [upd, hn, s2, x2, s3, x3, s6, hi])
          | (refine Tri.cond_true ?_ ?_; (focus simp [upd, hn, s2, x2, s3, x3, s6, hi]; done))
          | (refine Tri.cond_false ?_ ?_; (focus simp [upd, hn, s2, x2, s3, x3, s6, hi]; done))
          | (refine Tri.skip ?_; simp only [thenS, blockS])
          | (refine Tri.block_seq ?_)
          | (refine Tri.block_region ?_)
          | (refine Tri.block_cond ?_)
          | (refine Tri.exit ?_; simp [upd, hn, s2, x2, s3, x3, s6, hi]; first | (rename ∀ st, Tri _ _ _ st _ → _ => hK; first | (apply hK; clear hK) | (clear hK; rename ∀ st, Tri _ _ _ st _ → _ => hK; first | (apply hK; clear hK) | (clear hK; rename ∀ st, Tri _ _ _ st _ → _ => hK; first | (apply hK; clear hK) | (clear hK; rename ∀ st, Tri _ _ _ st _ → _ => hK; first | (apply hK; clear hK) | (clear hK; rename ∀ st, Tri _ _ _ st _ → _ => hK; first | (apply hK; clear hK) | (clear hK; rename ∀ st, Tri _ _ _ st _ → _ => hK; apply hK; clear hK)))))) | skip)
          | (intro β)
          | (rename ∀ st, Tri _ _ _ st _ → _ => hK; apply hK; clear hK))
        rw [(sameB_iff a b).2 ⟨e1, hat, ht⟩]
        refine Tri.ret ⟨_, rfl, ?_⟩
        simp [upd]
        exact Wk.refl _
      have hj : i < b.dels.length := by omega
      have hw : IntKind.i64.wrap ((i : Int) + 1) = (i : Int) + 1 := wrap_i64 (by omega) (by omega)
      cases he : delEq a.dels[i] b.dels[i]
      case false =>
        rw [sameB_false (fun h => by
          have : a.dels[i] = b.dels[i] := by simp only [h.2.2]
          rw [(delEq_iff _ _).2 this] at he
          cases he)]
        unfold delEq at he
        repeat (first
          | (refine Tri.seq fun K hK => ?_)
          | (refine Tri.region ?_; simp [upd, hn, s2, x2, s3, x3, s6, hi, hj, he])
          | (refine Tri.draw (by kernel_rfl) (by decide +kernel) ?_; simp [upd, hn, s2, x2, s3, x3, s6, hi, hj, he])
          | (refine Tri.cond_true ?_ ?_; (focus simp [upd, hn, s2, x2, s3, x3, s6, hi, hj, he]; done))
          | (refine Tri.cond_false ?_ ?_; (focus simp [upd, hn, s2, x2, s3, x3, s6, hi, hj, he]; done))
          | (refine Tri.skip ?_; simp only [thenS, blockS])
          | (refine Tri.block_seq ?_)
          | (refine Tri.block_region ?_)
          | (refine Tri.block_cond ?_)
          | (refine Tri.exit ?_; simp [upd, hn, s2, x2, s3, x3, s6, hi, hj, he]; first | (rename ∀ st, Tri _ _ _ st _ → _ => hK; first | (apply hK; clear hK) | (clear hK; rename ∀ st, Tri _ _ _ st _ → _ => hK; first | (apply hK; clear hK) | (clear hK; rename ∀ st, Tri _ _ _ st _ → _ => hK; first | (apply hK; clear hK) | (clear hK; rename ∀ st, Tri _ _ _ st _ → _ => hK; first | (apply hK; clear hK) | (clear hK; rename ∀ st, Tri _ _ _ st _ → _ => hK; first | (apply hK; clear hK) | (clear hK; rename ∀ st, Tri _ _ _ st _ → _ => hK; apply hK; clear hK)))))) | skip)
          | (intro β)
          | (rename ∀ st, Tri _ _ _ st _ → _ => hK; apply hK; clear hK))
        refine Tri.ret ⟨_, rfl, ?_⟩
        simp [upd]
        exact Wk.refl _
      have heq := (delEq_iff _ _).1 he
      unfold delEq at he
      repeat (first
        | (refine Tri.seq fun K hK => ?_)
        | (refine Tri.region ?_; simp [upd, hn, s2, x2, s3, x3, s6, hi, hj, hw, he])
        | (refine Tri.draw (by kernel_rfl) (by decide +kernel) ?_; simp [upd, hn, s2, x2, s3, x3, s6, hi, hj, hw, he])
        | (refine Tri.cond_true ?_ ?_; (focus simp [upd, hn, s2, x2, s3, x3, s6, hi, hj, hw, he]; done))
        | (refine Tri.cond_false ?_ ?_; (focus simp [upd, hn, s2, x2, s3, x3, s6, hi, hj, hw, he]; done))
        | (refine Tri.skip ?_; simp only [thenS, blockS])
        | (refine Tri.block_seq ?_)
        | (refine Tri.block_region ?_)
        | (refine Tri.block_cond ?_)
        | (refine Tri.exit ?_; simp [upd, hn, s2, x2, s3, x3, s6, hi, hj, hw, he]; first | (rename ∀ st, Tri _ _ _ st _ → _ => hK; first | (apply hK; clear hK) | (clear hK; rename ∀ st, Tri _ _ _ st _ → _ => hK; first | (apply hK; clear hK) | (clear hK; rename ∀ st, Tri _ _ _ st _ → _ => hK; first | (apply hK; clear hK) | (clear hK; rename ∀ st, Tri _ _ _ st _ → _ => hK; first | (apply hK; clear hK) | (clear hK; rename ∀ st, Tri _ _ _ st _ → _ => hK; first | (apply hK; clear hK) | (clear hK; rename ∀ st, Tri _ _ _ st _ → _ => hK; apply hK; clear hK)))))) | skip)
        | (intro β)
        | (rename ∀ st, Tri _ _ _ st _ → _ => hK; apply hK; clear hK))
      refine ⟨m - 1, by omega, i + 1, b2, b3, ⟨rfl, by simpa [upd] using s2, x2, by simpa [upd] using s3, x3⟩, by omega, by simp [upd], ?_⟩
      rw [List.take_succ_eq_append_getElem hi, List.take_succ_eq_append_getElem hj, ht, heq]
  clear hK
  refine Tri.block (Tri.loop (SInv1 a b) a.atts.length ?_ ?_)
  · exact ⟨0, _, _, ⟨rfl, by simp [upd] <;> exact rfl, by simp [upd] <;> exact rfl, by simp [upd] <;> exact rfl, by simp [upd] <;> exact rfl⟩, by simp, by simp [upd], by simp⟩
  · rintro m st ⟨i, b2, b3, ⟨hn, s2, x2, s3, x3⟩, hm, s5, ht⟩
    by_cases hi : i < a.atts.length
    case neg =>
      repeat (first
        | (refine Tri.seq fun K hK => ?_)
        | (refine Tri.region ?_; simp [upd, hn, s2, x2, s3, x3, s5, hi])
        | (refine Tri.draw (by kernel_rfl) (by decide +kernel) ?_; simp [upd, hn, s2, x2, s3, x3, s5, hi])
        | (refine Tri.cond_true ?_ ?_; (focus simp [upd, hn, s2, x2, s3, x3, s5, hi]; done))
        | (refine Tri.cond_false ?_ ?_; (focus simp [upd, hn, s2, x2, s3, x3, s5, hi]; done))
        | (refine Tri.skip ?_; simp only [thenS, blockS])
        | (refine Tri.block_seq ?_)
        | (refine Tri.block_region ?_)
        | (refine Tri.block_cond ?_)
        | (refine Tri.exit ?_; simp [upd, hn, s2, x2, s3, x3, s5, hi]; first | (rename ∀ st, Tri _ _ _ st _ → _ => hK; first | (apply hK; clear hK) | (clear hK; rename ∀ st, Tri _ _ _ st _ → _ => hK; first | (apply hK; clear hK) | (clear hK; rename ∀ st, Tri _ _ _ st _ → _ => hK; first | (apply hK; clear hK) | (clear hK; rename ∀ st, Tri _ _ _ st _ → _ => hK; first | (apply hK; clear hK) | (clear hK; rename ∀ st, Tri _ _ _ st _ → _ => hK; first | (apply hK; clear hK) | (clear hK; rename ∀ st, Tri _ _ _ st _ → _ => hK; apply hK; clear hK)))))) | skip)
        | (intro β)
        | (rename ∀ st, Tri _ _ _ st _ → _ => hK; apply hK; clear hK))
      apply fin
      have : i = a.atts.length := by omega
      subst this
      rw [List.take_length, e2, List.take_length] at ht
      exact ⟨b2, b3, ⟨rfl, by simpa [upd] using s2, x2, by simpa [upd] using s3, x3⟩, ht⟩
    have hj : i < b.atts.length := by omega
    have hw : IntKind.i64.wrap ((i : Int) + 1) = (i : Int) + 1 := wrap_i64 (by omega) (by omega)
    cases he : attEq a.atts[i] b.atts[i]
    case false =>
      rw [sameB_false (fun h => by
        have : a.atts[i] = b.atts[i] := by simp only [h.2.1]
        rw [(attEq_iff _ _).2 this] at he
        cases he)]
      unfold attEq at he
      repeat (first
        | (refine Tri.seq fun K hK => ?_)
        | (refine Tri.region ?_; simp [upd, hn, s2, x2, s3, x3, s5, hi, hj, he])
        | (refine Tri.draw (by kernel_rfl) (by decide +kernel) ?_; simp [upd, hn, s2, x2, s3, x3, s5, hi, hj, he])
        | (refine Tri.cond_true ?_ ?_; (focus simp [upd, hn, s2, x2, s3, x3, s5, hi, hj, he]; done))
        | (refine Tri.cond_false ?_ ?_; (focus simp [upd, hn, s2, x2, s3, x3, s5, hi, hj, he]; done))
        | (refine Tri.skip ?_; simp only [thenS, blockS])
        | (refine Tri.block_seq ?_)
        | (refine Tri.block_region ?_)
        | (refine Tri.block_cond ?_)
        | (refine Tri.exit ?_; simp [upd, hn, s2, x2, s3, x3, s5, hi, hj, he]; first | (rename ∀ st, Tri _ _ _ st _ → _ => hK; first | (apply hK; clear hK) | (clear hK; rename ∀ st, Tri _ _ _ st _ → _ => hK; first | (apply hK; clear hK) | (clear hK; rename ∀ st, Tri _ _ _ st _ → _ => hK; first | (apply hK; clear hK) | (clear hK; rename ∀ st, Tri _ _ _ st _ → _ => hK; first | (apply hK; clear hK) | (clear hK; rename ∀ st, Tri _ _ _ st _ → _ => hK; first | (apply hK; clear hK) | (clear hK; rename ∀ st, Tri _ _ _ st _ → _ => hK; apply hK; clear hK)))))) | skip)
        | (intro β)
        | (rename ∀ st, Tri _ _ _ st _ → _ => hK; apply hK; clear hK))
      refine Tri.ret ⟨_, rfl, ?_⟩
      simp [upd]
      exact Wk.refl _
    have heq := (attEq_iff _ _).1 he
    unfold attEq at he
    repeat (first
      | (refine Tri.seq fun K hK => ?_)
      | (refine Tri.region ?_; simp [upd, hn, s2, x2, s3, x3, s5, hi, hj, hw, he])
      | (refine Tri.draw (by kernel_rfl) (by decide +kernel) ?_; simp [upd, hn, s2, x2, s3, x3, s5, hi, hj, hw, he])
      | (refine Tri.cond_true ?_ ?_; (focus simp [upd, hn, s2, x2, s3, x3, s5, hi, hj, hw, he]; done))
      | (refine Tri.cond_false ?_ ?_; (focus simp [upd, hn, s2, x2, s3, x3, s5, hi, hj, hw, he]; done))
      | (refine Tri.skip ?_; simp only [thenS, blockS])
      | (refine Tri.block_seq ?_)
      | (refine Tri.block_region ?_)
      | (refine Tri.block_cond ?_)
      | (refine Tri.exit ?_; simp [upd, hn, s2, x2, s3, x3, s5, hi, hj, hw, he]; first | (rename ∀ st, Tri _ _ _ st _ → _ => hK; first | (apply hK; clear hK) | (clear hK; rename ∀ st, Tri _ _ _ st _ → _ => hK; first | (apply hK; clear hK) | (clear hK; rename ∀ st, Tri _ _ _ st _ → _ => hK; first | (apply hK; clear hK) | (clear hK; rename ∀ st, Tri _ _ _ st _ → _ => hK; first | (apply hK; clear hK) | (clear hK; rename ∀ st, Tri _ _ _ st _ → _ => hK; first | (apply hK; clear hK) | (clear hK; rename ∀ st, Tri _ _ _ st _ → _ => hK; apply hK; clear hK)))))) | skip)
      | (intro β)
      | (rename ∀ st, Tri _ _ _ st _ → _ => hK; apply hK; clear hK))
    refine ⟨m - 1, by omega, i + 1, b2, b3, ⟨rfl, by simpa [upd] using s2, x2, by simpa [upd] using s3, x3⟩, by omega, by simp [upd], ?_⟩
    rw [List.take_succ_eq_append_getElem hi, List.take_succ_eq_append_getElem hj, ht, heq]
end Go.Proofs.Ytcohdlochpjnjaa
end
section
open Go Go.Vm
namespace Go.Proofs.Ytcohdlochpjnjaa
set_option maxRecDepth 100000
set_option maxHeartbeats 1000000
set_option linter.unusedSimpArgs false
attribute [local irreducible] Tri Does DoesB Rounds
theorem few_does (r : Rec) : Does Try.prog 15 [.agg (recC r)] (.c (.bool (decide (r.atts.length ≤ 150) && decide (r.dels.length ≤ 100)))) := by
  refine Does.of_body Try.func15 rfl (by kernel_rfl) rfl rfl (by simp) ?_
  intro E
  simp only [recC]
  by_cases h1 : (r.atts.length : Int) ≤ 150
  · have e1 : decide (r.atts.length ≤ 150) = true := by simpa using (by omega : r.atts.length ≤ 150)
    rw [e1, Bool.true_and]
    repeat (first
      | (refine Tri.seq fun K hK => ?_)
      | (refine Tri.region ?_; simp [upd, h1])
      | (refine Tri.draw (by kernel_rfl) (by decide +kernel) ?_; simp [upd, h1])
      | (refine Tri.cond_true ?_ ?_; (focus simp [upd, h1]; done))
      | (refine Tri.cond_false ?_ ?_; (focus simp [upd, h1]; done))
      | (refine Tri.skip ?_; simp only [thenS, blockS])
      | (refine Tri.block_seq ?_)
      | (refine Tri.block_region ?_)
      | (refine Tri.block_cond ?_)
      | (refine Tri.exit ?_; simp [upd, h1]; first | (rename ∀ st, Tri _ _ _ st _ → _ => hK; first | (apply hK; clear hK) | (clear hK; rename ∀ st, Tri _ _ _ st _ → _ => hK; first | (apply hK; clear hK) | (clear hK; rename ∀ st, Tri _ _ _ st _ → _ => hK; first | (apply hK; clear hK) | (clear hK; rename ∀ st, Tri _ _ _ st _ → _ => hK; first | (apply hK; clear hK) | (clear hK; rename ∀ st, Tri _ _ _ st _ → _ => hK; first | (apply hK; clear hK) | (clear hK; rename ∀ st, Tri _ _ _ st _ → _ => hK; apply hK; clear hK)))))) | skip)
      | (intro β)
      | (rename ∀ st, Tri _ _ _ st _ → _ => hK; apply hK; clear hK))
    refine Tri.ret ⟨_, rfl, ?_⟩
    simp [upd]
    exact Wk.of_eq (by congr 2; simp; omega)
  · have e1 : decide (r.atts.length ≤ 150) = false := by simpa using (by omega : ¬ r.atts.length ≤ 150)
    rw [e1, Bool.false_and]
    repeat (first
      | (refine Tri.seq fun K hK => ?_)
      | (refine Tri.region ?_; simp [upd, h1])
      | (refine Tri.draw (by kernel_rfl) (by decide +kernel) ?_; simp [upd, h1])
      | (refine Tri.cond_true ?_ ?_; (focus simp [upd, h1]; done))
      | (refine Tri.cond_false ?_ ?_; (focus simp [upd, h1]; done))
      | (refine Tri.skip ?_; simp only [thenS, blockS])
      | (refine Tri.block_seq ?_)
      | (refine Tri.block_region ?_)
      | (refine Tri.block_cond ?_)
      | (refine Tri.exit ?_; simp [upd, h1]; first | (rename ∀ st, Tri _ _ _ st _ → _ => hK; first | (apply hK; clear hK) | (clear hK; rename ∀ st, Tri _ _ _ st _ → _ => hK; first | (apply hK; clear hK) | (clear hK; rename ∀ st, Tri _ _ _ st _ → _ => hK; first | (apply hK; clear hK) | (clear hK; rename ∀ st, Tri _ _ _ st _ → _ => hK; first | (apply hK; clear hK) | (clear hK; rename ∀ st, Tri _ _ _ st _ → _ => hK; first | (apply hK; clear hK) | (clear hK; rename ∀ st, Tri _ _ _ st _ → _ => hK; apply hK; clear hK)))))) | skip)
      | (intro β)
      | (rename ∀ st, Tri _ _ _ st _ → _ => hK; apply hK; clear hK))
    refine Tri.ret ⟨_, rfl, ?_⟩
    simp [upd]
    exact Wk.refl _
theorem equalI_does (x y : List Int) (n1 n2 : Bool) (hl : x.length ≤ 1073741824) : Does Try.prog 23 [.c (.sl n1 1 none (I1 x)), .c (.sl n2 1 none (I1 y))] (.c (.bool (x == y))) := by
  refine Does.of_body Try.func23 rfl (by kernel_rfl) rfl rfl (by simp) ?_
  intro E
  unfold I1
  cases g : ((x.length : Int) == (y.length : Int))
  case false =>
    have e : (x == y) = false := by
      cases h : (x == y)
      · rfl
      · rw [eq_of_beq h] at g; simp at g
    rw [e]
    repeat (first
      | (refine Tri.seq fun K hK => ?_)
      | (refine Tri.region ?_; simp [upd, g, bne])
      | (refine Tri.draw (by kernel_rfl) (by decide +kernel) ?_; simp [upd, g, bne])
      | (refine Tri.cond_true ?_ ?_; (focus simp [upd, g, bne]; done))
      | (refine Tri.cond_false ?_ ?_; (focus simp [upd, g, bne]; done))
      | (refine Tri.skip ?_; simp only [thenS, blockS])
      | (refine Tri.block_seq ?_)
      | (refine Tri.block_region ?_)
      | (refine Tri.block_cond ?_)
      | (refine Tri.exit ?_; simp [upd, g, bne]; first | (rename ∀ st, Tri _ _ _ st _ → _ => hK; first | (apply hK; clear hK) | (clear hK; rename ∀ st, Tri _ _ _ st _ → _ => hK; first | (apply hK; clear hK) | (clear hK; rename ∀ st, Tri _ _ _ st _ → _ => hK; first | (apply hK; clear hK) | (clear hK; rename ∀ st, Tri _ _ _ st _ → _ => hK; first | (apply hK; clear hK) | (clear hK; rename ∀ st, Tri _ _ _ st _ → _ => hK; first | (apply hK; clear hK) | (clear hK; rename ∀ st, Tri _ _ _ st _ → _ => hK; apply hK; clear hK)))))) | skip)
      | (intro β)
      | (rename ∀ st, Tri _ _ _ st _ → _ => hK; apply hK; clear hK))
    refine Tri.ret ⟨_, rfl, ?_⟩
    simp [upd]
    exact Wk.refl _
  have el : x.length = y.length := by
    have : (x.length : Int) = (y.length : Int) := by simpa using g
    omega
  repeat (first
    | (refine Tri.seq fun K hK => ?_)
    | (refine Tri.region ?_; simp [upd, g, bne])
    | (refine Tri.draw (by kernel_rfl) (by decide +kernel) ?_; simp [upd, g, bne])
    | (refine Tri.cond_true ?_ ?_; (focus simp [upd, g, bne]; done))
    | (refine Tri.cond_false ?_ ?_; (focus simp [upd, g, bne]; done))
    | (refine Tri.skip ?_; simp only [thenS, blockS])
    | (refine Tri.block_seq ?_)
    | (refine Tri.block_region ?_)
    | (refine Tri.block_cond ?_)
    | (refine Tri.exit ?_; simp [upd, g, bne]; first | (rename ∀ st, Tri _ _ _ st _ → _ => hK; first | (apply hK; clear hK) | (clear hK; rename ∀ st, Tri _ _ _ st _ → _ => hK; first | (apply hK; clear hK) | (clear hK; rename ∀ st, Tri _ _ _ st _ → _ => hK; first | (apply hK; clear hK) | (clear hK; rename ∀ st, Tri _ _ _ st _ → _ => hK; first | (apply hK; clear hK) | (clear hK; rename ∀ st, Tri _ _ _ st _ → _ => hK; first | (apply hK; clear hK) | (clear hK; rename ∀ st, Tri _ _ _ st _ → _ => hK; apply hK; clear hK)))))) | skip)
    | (intro β)
    | (rename ∀ st, Tri _ _ _ st _ → _ => hK; apply hK; clear hK))
  refine Tri.range 13 12 14 25 26 rfl rfl x.length (fun k st => st.sl 0 = .c (.sl n1 1 none (x.map fun x => [.int .i64 x])) ∧ st.sl 1 = .c (.sl n2 1 none (y.map fun x => [.int .i64 x])) ∧ x.take k = y.take k) (by simp) (by omega) ?_ rfl (by simp [upd]) (by simp [upd]) ?_ ?_ ?_
  · rintro k st t v ht ⟨a1, a2, a3⟩
    rcases ht with rfl | rfl | rfl <;> exact ⟨by simpa [upd] using a1, by simpa [upd] using a2, a3⟩
  · exact ⟨by simp [upd], by simp [upd], by simp⟩
  · rintro k st hk ⟨a1, a2, a3⟩ hn h13 h12
    have hj : k < y.length := by omega
    cases he : (x[k] == y[k])
    case false =>
      have e : (x == y) = false := by
        cases h : (x == y)
        · rfl
        · exfalso
          have := eq_of_beq h
          subst this
          simp at he
      rw [e]
      repeat (first
        | (refine Tri.seq fun K hK => ?_)
        | (refine Tri.region ?_; simp [upd, hn, a1, a2, h13, h12, hk, hj, he, bne])
        | (refine Tri.draw (by kernel_rfl) (by decide +kernel) ?_; simp [upd, hn, a1, a2, h13, h12, hk, hj, he, bne])
        | (refine Tri.cond_true ?_ ?_; (focus simp [upd, hn, a1, a2, h13, h12, hk, hj, he, bne]; done))
        | (refine Tri.cond_false ?_ ?_; (focus simp [upd, hn, a1, a2, h13, h12, hk, hj, he, bne]; done))
        | (refine Tri.skip ?_; simp only [thenS, blockS])
        | (refine Tri.block_seq ?_)
        | (refine Tri.block_region ?_)
        | (refine Tri.block_cond ?_)
        | (refine Tri.exit ?_; simp [upd, hn, a1, a2, h13, h12, hk, hj, he, bne]; first | (rename ∀ st, Tri _ _ _ st _ → _ => hK; first | (apply hK; clear hK) | (clear hK; rename ∀ st, Tri _ _ _ st _ → _ => hK; first | (apply hK; clear hK) | (clear hK; rename ∀ st, Tri _ _ _ st _ → _ => hK; first | (apply hK; clear hK) | (clear hK; rename ∀ st, Tri _ _ _ st _ → _ => hK; first | (apply hK; clear hK) | (clear hK; rename ∀ st, Tri _ _ _ st _ → _ => hK; first | (apply hK; clear hK) | (clear hK; rename ∀ st, Tri _ _ _ st _ → _ => hK; apply hK; clear hK)))))) | skip)
        | (intro β)
        | (rename ∀ st, Tri _ _ _ st _ → _ => hK; apply hK; clear hK))
      refine Tri.ret ⟨_, rfl, ?_⟩
      simp [upd]
      exact Wk.refl _
    have heq : x[k] = y[k] := eq_of_beq he
    repeat (first
      | (refine Tri.seq fun K hK => ?_)
      | (refine Tri.region ?_; simp [upd, hn, a1, a2, h13, h12, hk, hj, he, bne])
      | (refine Tri.draw (by kernel_rfl) (by decide +kernel) ?_; simp [upd, hn, a1, a2, h13, h12, hk, hj, he, bne])
      | (refine Tri.cond_true ?_ ?_; (focus simp [upd, hn, a1, a2, h13, h12, hk, hj, he, bne]; done))
      | (refine Tri.cond_false ?_ ?_; (focus simp [upd, hn, a1, a2, h13, h12, hk, hj, he, bne]; done))
      | (refine Tri.skip ?_; simp only [thenS, blockS])
      | (refine Tri.block_seq ?_)
      | (refine Tri.block_region ?_)
      | (refine Tri.block_cond ?_)
      | (refine Tri.exit ?_; simp [upd, hn, a1, a2, h13, h12, hk, hj, he, bne]; first | (rename ∀ st, Tri _ _ _ st _ → _ => hK; first | (apply hK; clear hK) | (clear hK; rename ∀ st, Tri _ _ _ st _ → _ => hK; first | (apply hK; clear hK) | (clear hK; rename ∀ st, Tri _ _ _ st _ → _ => hK; first | (apply hK; clear hK) | (clear hK; rename ∀ st, Tri _ _ _ st _ → _ => hK; first | (apply hK; clear hK) | (clear hK; rename ∀ st, Tri _ _ _ st _ → _ => hK; first | (apply hK; clear hK) | (clear hK; rename ∀ st, Tri _ _ _ st _ → _ => hK; apply hK; clear hK)))))) | skip)
      | (intro β)
      | (rename ∀ st, Tri _ _ _ st _ → _ => hK; apply hK; clear hK))
    try simp [upd, h13, h12, a1, a2]
    rw [List.take_succ_eq_append_getElem hk, List.take_succ_eq_append_getElem hj, a3, heq]
  · rintro st ⟨a1, a2, a3⟩ hn
    rw [List.take_length, el, List.take_length] at a3
    rename ∀ st, Tri _ _ _ st _ → _ => hK
    apply hK
    rw [a3]
    repeat (first
      | (refine Tri.seq fun K hK => ?_)
      | (refine Tri.region ?_; simp [upd, hn])
      | (refine Tri.draw (by kernel_rfl) (by decide +kernel) ?_; simp [upd, hn])
      | (refine Tri.cond_true ?_ ?_; (focus simp [upd, hn]; done))
      | (refine Tri.cond_false ?_ ?_; (focus simp [upd, hn]; done))
      | (refine Tri.skip ?_; simp only [thenS, blockS])
      | (refine Tri.block_seq ?_)
      | (refine Tri.block_region ?_)
      | (refine Tri.block_cond ?_)
      | (refine Tri.exit ?_; simp [upd, hn]; first | (rename ∀ st, Tri _ _ _ st _ → _ => hK; first | (apply hK; clear hK) | (clear hK; rename ∀ st, Tri _ _ _ st _ → _ => hK; first | (apply hK; clear hK) | (clear hK; rename ∀ st, Tri _ _ _ st _ → _ => hK; first | (apply hK; clear hK) | (clear hK; rename ∀ st, Tri _ _ _ st _ → _ => hK; first | (apply hK; clear hK) | (clear hK; rename ∀ st, Tri _ _ _ st _ → _ => hK; first | (apply hK; clear hK) | (clear hK; rename ∀ st, Tri _ _ _ st _ → _ => hK; apply hK; clear hK)))))) | skip)
      | (intro β)
      | (rename ∀ st, Tri _ _ _ st _ → _ => hK; apply hK; clear hK))
    refine Tri.ret ⟨_, rfl, ?_⟩
    simp [upd]
    exact Wk.refl _
theorem cloneA_does (l : List Att) (nl : Bool) (hnl : nl = true → l = []) (hl : l.length ≤ 1073741824) : Does Try.prog 41 [.c (.sl nl 8 none (l.map attC))] (.c (.sl nl 8 none (l.map attC))) := by
  refine Does.of_body Try.func41 rfl (by kernel_rfl) rfl rfl (by simp) ?_
  intro E
  cases nl
  case true =>
    have := hnl rfl
    subst this
    repeat (first
      | (refine Tri.seq fun K hK => ?_)
      | (refine Tri.region ?_; simp [upd])
      | (refine Tri.draw (by kernel_rfl) (by decide +kernel) ?_; simp [upd])
      | (refine Tri.cond_true ?_ ?_; (focus simp [upd]; done))
      | (refine Tri.cond_false ?_ ?_; (focus simp [upd]; done))
      | (refine Tri.skip ?_; simp only [thenS, blockS])
      | (refine Tri.block_seq ?_)
      | (refine Tri.block_region ?_)
      | (refine Tri.block_cond ?_)
      | (refine Tri.exit ?_; simp [upd]; first | (rename ∀ st, Tri _ _ _ st _ → _ => hK; first | (apply hK; clear hK) | (clear hK; rename ∀ st, Tri _ _ _ st _ → _ => hK; first | (apply hK; clear hK) | (clear hK; rename ∀ st, Tri _ _ _ st _ → _ => hK; first | (apply hK; clear hK) | (clear hK; rename ∀ st, Tri _ _ _ st _ → _ => hK; first | (apply hK; clear hK) | (clear hK; rename ∀ st, Tri _ _ _ st _ → _ => hK; first | (apply hK; clear hK) | (clear hK; rename ∀ st, Tri _ _ _ st _ → _ => hK; apply hK; clear hK)))))) | skip)
      | (intro β)
      | (rename ∀ st, Tri _ _ _ st _ → _ => hK; apply hK; clear hK))
    refine Tri.ret ⟨_, rfl, ?_⟩
    simp [upd]
    exact .nil _ _ _ _
  have hs : (l.map attC).map (fun x => x.map C.strip) = l.map attC := by simp
  have hb : l.length * 64 ≤ 140737488355328 := by omega
  repeat (first
    | (refine Tri.seq fun K hK => ?_)
    | (refine Tri.region ?_; simp [upd, hs, hb])
    | (refine Tri.draw (by kernel_rfl) (by decide +kernel) ?_; simp [upd, hs, hb])
    | (refine Tri.cond_true ?_ ?_; (focus simp [upd, hs, hb]; done))
    | (refine Tri.cond_false ?_ ?_; (focus simp [upd, hs, hb]; done))
    | (refine Tri.skip ?_; simp only [thenS, blockS])
    | (refine Tri.block_seq ?_)
    | (refine Tri.block_region ?_)
    | (refine Tri.block_cond ?_)
    | (refine Tri.exit ?_; simp [upd, hs, hb]; first | (rename ∀ st, Tri _ _ _ st _ → _ => hK; first | (apply hK; clear hK) | (clear hK; rename ∀ st, Tri _ _ _ st _ → _ => hK; first | (apply hK; clear hK) | (clear hK; rename ∀ st, Tri _ _ _ st _ → _ => hK; first | (apply hK; clear hK) | (clear hK; rename ∀ st, Tri _ _ _ st _ → _ => hK; first | (apply hK; clear hK) | (clear hK; rename ∀ st, Tri _ _ _ st _ → _ => hK; first | (apply hK; clear hK) | (clear hK; rename ∀ st, Tri _ _ _ st _ → _ => hK; apply hK; clear hK)))))) | skip)
    | (intro β)
    | (rename ∀ st, Tri _ _ _ st _ → _ => hK; apply hK; clear hK))
  refine Tri.ret ⟨_, rfl, ?_⟩
  simp [upd]
  exact .untag _ _ _ _
theorem cloneD_does (l : List Del) (nl : Bool) (hnl : nl = true → l = []) (hl : l.length ≤ 1073741824) : Does Try.prog 42 [.c (.sl nl 3 none (l.map delC))] (.c (.sl nl 3 none (l.map delC))) := by
  refine Does.of_body Try.func42 rfl (by kernel_rfl) rfl rfl (by simp) ?_
  intro E
  cases nl
  case true =>
    have := hnl rfl
    subst this
    repeat (first
      | (refine Tri.seq fun K hK => ?_)
      | (refine Tri.region ?_; simp [upd])
      | (refine Tri.draw (by kernel_rfl) (by decide +kernel) ?_; simp [upd])
      | (refine Tri.cond_true ?_ ?_; (focus simp [upd]; done))
      | (refine Tri.cond_false ?_ ?_; (focus simp [upd]; done))
      | (refine Tri.skip ?_; simp only [thenS, blockS])
      | (refine Tri.block_seq ?_)
      | (refine Tri.block_region ?_)
      | (refine Tri.block_cond ?_)
      | (refine Tri.exit ?_; simp [upd]; first | (rename ∀ st, Tri _ _ _ st _ → _ => hK; first | (apply hK; clear hK) | (clear hK; rename ∀ st, Tri _ _ _ st _ → _ => hK; first | (apply hK; clear hK) | (clear hK; rename ∀ st, Tri _ _ _ st _ → _ => hK; first | (apply hK; clear hK) | (clear hK; rename ∀ st, Tri _ _ _ st _ → _ => hK; first | (apply hK; clear hK) | (clear hK; rename ∀ st, Tri _ _ _ st _ → _ => hK; first | (apply hK; clear hK) | (clear hK; rename ∀ st, Tri _ _ _ st _ → _ => hK; apply hK; clear hK)))))) | skip)
      | (intro β)
      | (rename ∀ st, Tri _ _ _ st _ → _ => hK; apply hK; clear hK))
    refine Tri.ret ⟨_, rfl, ?_⟩
    simp [upd]
    exact .nil _ _ _ _
  have hs : (l.map delC).map (fun x => x.map C.strip) = l.map delC := by simp
  have hb : l.length * 24 ≤ 140737488355328 := by omega
  repeat (first
    | (refine Tri.seq fun K hK => ?_)
    | (refine Tri.region ?_; simp [upd, hs, hb])
    | (refine Tri.draw (by kernel_rfl) (by decide +kernel) ?_; simp [upd, hs, hb])
    | (refine Tri.cond_true ?_ ?_; (focus simp [upd, hs, hb]; done))
    | (refine Tri.cond_false ?_ ?_; (focus simp [upd, hs, hb]; done))
    | (refine Tri.skip ?_; simp only [thenS, blockS])
    | (refine Tri.block_seq ?_)
    | (refine Tri.block_region ?_)
    | (refine Tri.block_cond ?_)
    | (refine Tri.exit ?_; simp [upd, hs, hb]; first | (rename ∀ st, Tri _ _ _ st _ → _ => hK; first | (apply hK; clear hK) | (clear hK; rename ∀ st, Tri _ _ _ st _ → _ => hK; first | (apply hK; clear hK) | (clear hK; rename ∀ st, Tri _ _ _ st _ → _ => hK; first | (apply hK; clear hK) | (clear hK; rename ∀ st, Tri _ _ _ st _ → _ => hK; first | (apply hK; clear hK) | (clear hK; rename ∀ st, Tri _ _ _ st _ → _ => hK; first | (apply hK; clear hK) | (clear hK; rename ∀ st, Tri _ _ _ st _ → _ => hK; apply hK; clear hK)))))) | skip)
    | (intro β)
    | (rename ∀ st, Tri _ _ _ st _ → _ => hK; apply hK; clear hK))
  refine Tri.ret ⟨_, rfl, ?_⟩
  simp [upd]
  exact .untag _ _ _ _
end Go.Proofs.Ytcohdlochpjnjaa
end
section
open Go Go.Vm
namespace Go.Proofs.Ytcohdlochpjnjaa
set_option maxRecDepth 100000
set_option maxHeartbeats 4000000
set_option linter.unusedSimpArgs false
attribute [local irreducible] Tri Does DoesB Rounds
structure RecOk (r : Rec) : Prop where
  an : r.an = true → r.atts = []
  dn : r.dn = true → r.dels = []
  al : r.atts.length ≤ 1073741824
  dl : r.dels.length ≤ 1073741824
theorem cp_does (r : Rec) (h : RecOk r) : Does Try.prog 16 [.agg (recC r)] (.agg (recC r)) := by
  refine Does.of_body Try.func16 rfl (by kernel_rfl) rfl rfl (by simp) ?_
  intro E
  have ca := cloneA_does r.atts r.an h.an h.al
  have cd := cloneD_does r.dels r.dn h.dn h.dl
  simp only [recC]
  repeat (first
    | (refine Tri.seq fun K hK => ?_)
    | (refine Tri.region ?_; simp [upd])
    | (refine Tri.draw (by kernel_rfl) (by decide +kernel) ?_; simp [upd])
    | (refine Tri.cond_true ?_ ?_; (focus simp [upd]; done))
    | (refine Tri.cond_false ?_ ?_; (focus simp [upd]; done))
    | (refine Tri.skip ?_; simp only [thenS, blockS])
    | (refine Tri.block_seq ?_)
    | (refine Tri.block_region ?_)
    | (refine Tri.block_cond ?_)
    | ((with_reducible refine CallK.pure (ca) (Wks.refl _) ?_); simp [upd])
    | ((with_reducible refine CallK.pure (cd) (Wks.refl _) ?_); simp [upd])
    | (refine Tri.exit ?_; simp [upd]; first | (rename ∀ st, Tri _ _ _ st _ → _ => hK; first | (apply hK; clear hK) | (clear hK; rename ∀ st, Tri _ _ _ st _ → _ => hK; first | (apply hK; clear hK) | (clear hK; rename ∀ st, Tri _ _ _ st _ → _ => hK; first | (apply hK; clear hK) | (clear hK; rename ∀ st, Tri _ _ _ st _ → _ => hK; first | (apply hK; clear hK) | (clear hK; rename ∀ st, Tri _ _ _ st _ → _ => hK; first | (apply hK; clear hK) | (clear hK; rename ∀ st, Tri _ _ _ st _ → _ => hK; apply hK; clear hK)))))) | skip)
    | (intro β)
    | (rename ∀ st, Tri _ _ _ st _ → _ => hK; apply hK; clear hK))
  refine Tri.ret ⟨.agg (recC r), by simp [upd, recC], ?_⟩
  exact Wk.refl _
def exR : Rec := ⟨200, false, [⟨130, 2, 2, 0, 1, 0, 6, 3⟩], true, []⟩
def exD : ByteArray := ⟨#[200, 1, 1, 130, 1, 2, 2, 0, 1, 0, 6, 3, 0]⟩
theorem varI_small (n : Int) (h : n < 128) : varI n = [IntKind.u8.wrap n] := by rw [varI, dif_neg (by omega)]
theorem encB_ex : encB exR = [200, 1, 1, 130, 1, 2, 2, 0, 1, 0, 6, 3, 0] := by
  have e1 : varI 200 = [200, 1] := by
    rw [varI, dif_pos (by omega), varI_small _ (by decide)]
    rfl
  have e2 : varI 130 = [130, 1] := by
    rw [varI, dif_pos (by omega), varI_small _ (by decide)]
    rfl
  have e3 : i64w (130 - 0) = 130 := rfl
  simp only [encB, exR, attsEnc, delsEnc, attNs, List.flatMap_cons, List.flatMap_nil, List.length_cons, List.length_nil, e1, e2, e3, List.append_nil]
  rw [varI_small 2 (by omega), varI_small 0 (by omega), varI_small 1 (by omega), varI_small 6 (by omega), varI_small 3 (by omega)]
  simp [varI_small]
  exact ⟨rfl, rfl, rfl, rfl, rfl, rfl, rfl, rfl⟩
theorem bytesOf_ex : bytesOf (encB exR) = exD := by
  rw [encB_ex]
  rfl
theorem check_ex : check exR = 0 := by kernel_rfl
theorem decode_ex : decode exD = (exR, 0) := by kernel_rfl
theorem losses_ex : losses exR 6 2 1 0 = [[130]] := by kernel_rfl
theorem attsOf_ex : attsOf exR 6 2 = exR.atts := by kernel_rfl
theorem cut_ex : cut exR 100 = (⟨100, true, [], true, []⟩, 0) := by kernel_rfl
theorem counts_ex : counts exR = [.int .i64 0, .int .i64 0, .int .i64 0, .int .i64 1, .int .i64 0] := by kernel_rfl
theorem exAgg : Wk (.agg [.int .i64 200, .sl false 8 none [[.int .i64 130, .int .i64 2, .int .i64 2, .int .i64 0, .int .i64 1, .int .i64 0, .int .i64 6, .int .i64 3]], .sl true 0 none []]) (.agg (recC exR)) :=
  .agg3 (.refl _) (.refl _) (.nil _ _ _ _)
theorem awake_does : Does Try.prog 10 [] (.c (.bool true)) := by
  refine Does.of_body Try.func10 rfl (by kernel_rfl) rfl rfl (by simp) ?_
  intro E
  have l1 := encode_does exR (fun _ => by rw [encB_ex]; simp)
  rw [if_pos check_ex, bytesOf_ex] at l1
  have l2 := decode_does exD (by decide)
  rw [decode_ex] at l2
  have l3 := losses_does exR 6 2 1 0 (by decide)
  rw [losses_ex] at l3
  have l4 := cut_does exR 100
  rw [cut_ex] at l4
  have l5 := same_does exR exR (by decide) (by decide)
  rw [(sameB_iff exR exR).2 ⟨rfl, rfl, rfl⟩] at l5
  have l6 := equalI_does [130] [130] false false (by simp)
  have l7 := attempts_does exR 6 2 (by decide)
  have e7 : (exR.atts.filter fun a => a.flow == 6 && a.frame == 2) = exR.atts := attsOf_ex
  rw [e7] at l7
  have l8 := counts_does exR (by decide)
  rw [counts_ex] at l8
  simp only [recC, runsC, runC, I1, List.map, attC, exR, List.isEmpty] at l2 l3 l4 l5 l6 l7
  repeat (first
    | (refine Tri.seq fun K hK => ?_)
    | (refine Tri.region ?_; simp [upd, exD])
    | (refine Tri.draw (by kernel_rfl) (by decide +kernel) ?_; simp [upd, exD])
    | (refine Tri.cond_true ?_ ?_; (focus simp [upd, exD]; done))
    | (refine Tri.cond_false ?_ ?_; (focus simp [upd, exD]; done))
    | (refine Tri.skip ?_; simp only [thenS, blockS])
    | (refine Tri.block_seq ?_)
    | (refine Tri.block_region ?_)
    | (refine Tri.block_cond ?_)
    | (refine CallK.pure l1 ⟨exAgg, trivial⟩ ?_; simp [upd, exD])
    | ((with_reducible refine CallK.pure (l2) (Wks.refl _) ?_); simp [upd, exD])
    | (refine CallK.pure l3 ⟨exAgg, .refl _, .refl _, .refl _, .refl _, trivial⟩ ?_; simp [upd, exD])
    | (refine CallK.pure l4 ⟨exAgg, .refl _, trivial⟩ ?_; simp [upd, exD])
    | (refine CallK.pure l5 ⟨.refl _, exAgg, trivial⟩ ?_; simp [upd, exD])
    | ((with_reducible refine CallK.pure (l6) (Wks.refl _) ?_); simp [upd, exD])
    | (refine CallK.pure l7 ⟨exAgg, .refl _, .refl _, trivial⟩ ?_; simp [upd, exD])
    | (refine CallK.pure l8 ⟨exAgg, trivial⟩ ?_; simp [upd, exD])
    | (refine Tri.exit ?_; simp [upd, exD]; first | (rename ∀ st, Tri _ _ _ st _ → _ => hK; first | (apply hK; clear hK) | (clear hK; rename ∀ st, Tri _ _ _ st _ → _ => hK; first | (apply hK; clear hK) | (clear hK; rename ∀ st, Tri _ _ _ st _ → _ => hK; first | (apply hK; clear hK) | (clear hK; rename ∀ st, Tri _ _ _ st _ → _ => hK; first | (apply hK; clear hK) | (clear hK; rename ∀ st, Tri _ _ _ st _ → _ => hK; first | (apply hK; clear hK) | (clear hK; rename ∀ st, Tri _ _ _ st _ → _ => hK; apply hK; clear hK)))))) | skip)
    | (intro β)
    | (rename ∀ st, Tri _ _ _ st _ → _ => hK; apply hK; clear hK))
  refine Tri.ret ⟨_, rfl, ?_⟩
  simp [upd]
  exact Wk.refl _
end Go.Proofs.Ytcohdlochpjnjaa
end
section
namespace Go.Vm

/-- Types whose cells are all i64, field behind field. -/
def flatI (P : Program) : Nat → TypeId → Bool
  | 0, _ => false
  | d + 1, t => match P.underlying t with
    | some (.int .i64) => true
    | some (.struct fs) => fs.toList.all (fun f => flatI P d f.type) && (fs.toList.foldl (fun (o : Option Nat) f => match o with
        | some k => if f.offset = k then some (k + P.cellsOf f.type) else none
        | none => none) (some 0) == some (P.cellsOf t))
    | _ => false

section
variable {H : Type} {enc : TypeId × Value → H} {P : Program} {w : World} {base : Nat} {spare : Nat → Bool} {held : Bool}

theorem mapM_all {α β : Type} {f : α → Option β} : ∀ {l : List α} {r : List β}, l.mapM f = some r → ∀ x ∈ l, ∃ y, f x = some y
  | [], _, _, x, hx => by cases hx
  | a :: l, r, h, x, hx => by
    simp only [List.mapM_cons, Option.bind_eq_bind, Option.bind_eq_some_iff] at h
    obtain ⟨y, hy, z, hz, _⟩ := h
    rcases List.mem_cons.1 hx with rfl | hx
    · exact ⟨y, hy⟩
    · exact mapM_all hz x hx

theorem cover_fold : ∀ (fs : List Field) (k n : Nat), fs.foldl (fun (o : Option Nat) f => match o with
        | some k => if f.offset = k then some (k + P.cellsOf f.type) else none
        | none => none) (some k) = some n → k ≤ n ∧ ∀ i, k ≤ i → i < n → ∃ f ∈ fs, f.offset ≤ i ∧ i < f.offset + P.cellsOf f.type
  | [], k, n, h => by
    simp at h
    subst h
    exact ⟨Nat.le_refl _, fun i h1 h2 => by omega⟩
  | f :: fs, k, n, h => by
    simp only [List.foldl_cons] at h
    split at h
    · rename_i e
      obtain ⟨h1, h2⟩ := cover_fold fs _ n h
      refine ⟨by omega, fun i hi hn => ?_⟩
      by_cases hlt : i < k + P.cellsOf f.type
      · exact ⟨f, List.mem_cons_self .., by omega, by omega⟩
      · obtain ⟨g, hg, h3⟩ := h2 i (by omega) hn
        exact ⟨g, List.mem_cons_of_mem _ hg, h3⟩
    · exfalso
      have : ∀ (l : List Field), l.foldl (fun (o : Option Nat) f => match o with
        | some k => if f.offset = k then some (k + P.cellsOf f.type) else none
        | none => none) none = none := fun l => by induction l with
        | nil => rfl
        | cons a l ih => simpa using ih
      rw [this] at h
      cases h

theorem trod_flat : ∀ (d fuel : Nat) (t : TypeId) (cs : List Value) (x : DataW H × List MemPlace), flatI P d t = true → DataW.trod enc P w base spare held fuel t cs = some x → ∀ (i : Nat) (c : Value), cs[i]? = some c → ∃ z, c = .int .i64 z
  | 0, _, _, _, _, hf, _ => by cases hf
  | d + 1, fuel, t, cs, x, hf, h => by
    unfold flatI at hf
    split at hf
    · rename_i hu
      intro i c hc
      obtain ⟨n, rfl, _⟩ := DataW.trod_int hu h
      have := List.mem_of_getElem? hc
      simp at this
      exact ⟨n, this⟩
    · rename_i fs hu
      simp only [Bool.and_eq_true, beq_iff_eq, List.all_eq_true] at hf
      obtain ⟨hall, hcov⟩ := hf
      obtain ⟨xs, n, rfl, _, hlen, hxl, hfld⟩ := DataW.trod_struct hu h
      intro i c hc
      have hi := (List.getElem?_eq_some_iff.1 hc).1
      obtain ⟨f, hfm, h1, h2⟩ := (cover_fold fs.toList 0 (P.cellsOf t) hcov).2 i (Nat.zero_le _) (by omega)
      obtain ⟨j, hj⟩ := List.mem_iff_getElem?.1 hfm
      have hj' : fs[j]? = some f := by simpa using hj
      have hjl : j < xs.length := by rw [hxl]; exact (Array.getElem?_eq_some_iff.1 hj').1
      have := hfld j f hj'
      rw [List.getElem?_eq_getElem hjl] at this
      exact trod_flat d n f.type _ _ (hall f hfm) this (i - f.offset) c (by
        rw [List.getElem?_take, if_pos (by omega), List.getElem?_drop]
        rw [show f.offset + (i - f.offset) = i by omega]
        exact hc)
    · cases hf

theorem addr_add (a : Addr) (h : a.spot = none) (k : Nat) : a.add k = ⟨a.block, a.off + k, none⟩ := by
  obtain ⟨b, o, s⟩ := a
  simp only at h
  subst h
  exact Addr.add_none b o k

theorem cell_size {a : Addr} {v : Value} (h : w.cell? a = some v) : a.block < w.heap.size := by
  unfold World.cell? at h
  split at h
  · rename_i hb; exact (Array.getElem?_eq_some_iff.1 hb).1
  · cases h

theorem open_flat_slice {d t e n fuel : Nat} {v : Value} {x : DataW H × List MemPlace} (ht : P.underlying t = some (.slice e)) (hfl : flatI P d e = true) (hn : P.cellsOf e = n)
    (h : DataW.trod enc P w base spare held fuel t [v] = some x) (hspot : ∀ a len cap, v = .slice (some a) len cap → a.spot = none) :
    ∃ (nl : Bool) (zs : List (List Int)), (nl = true → zs = []) ∧ (∀ z ∈ zs, z.length = n) ∧ zs.length ≤ maxLen ∧ CR (fun b _ => b < w.heap.size) w v (.sl nl n none (zs.map fun z => z.map (C.int .i64))) := by
  rcases Deep.open_slice ht h with ⟨h0, _⟩ | ⟨a, len, cap, m, f2, D, Pl, hcs, hb, hl, hm, hmm, hx, hi⟩
  · cases h0
    exact ⟨true, [], fun _ => rfl, by simp, by simp, .nil _ _⟩
  · cases hcs
    have hsp := hspot a len cap rfl
    have hml : len ≤ m := by rw [hmm]; split <;> omega
    have hex : ∀ i, i < len → ∃ z : List Int, z.length = n ∧ ∀ j (hj : j < z.length), w.cell? ⟨a.block, a.off + (i * n + j), none⟩ = some (.int .i64 z[j]) := fun i hil => by
      obtain ⟨cs', hc, htr⟩ := hi i (by omega)
      rw [hn] at hc
      obtain ⟨_, hcl, hat⟩ := World.cells?_some hc
      have hflat := trod_flat d f2 e cs' _ hfl htr
      have hsub : ∃ z : List Int, cs' = z.map (Value.int .i64) := by
        clear hat hc htr hcl
        induction cs' with
        | nil => exact ⟨[], rfl⟩
        | cons c cs' ih =>
          obtain ⟨y, hy⟩ := hflat 0 c rfl
          obtain ⟨z, hz⟩ := ih fun i c hc => hflat (i + 1) c (by simpa using hc)
          exact ⟨y :: z, by rw [hy, hz]; rfl⟩
      obtain ⟨z, rfl⟩ := hsub
      refine ⟨z, by simpa using hcl, fun j hj => ?_⟩
      have hlz : z.length = n := by simpa using hcl
      have := hat j (by omega)
      rw [Deep.add_add, addr_add a hsp] at this
      rw [this]
      simp [hj]
    obtain ⟨Z, hZ⟩ := Deep.choose_lt hex
    let zs := (List.range len).map Z
    have hzl : zs.length = len := by simp [zs]
    have hzn : ∀ z ∈ zs, z.length = n := fun z hz => by
      obtain ⟨i, hi, rfl⟩ := List.mem_map.1 hz
      exact (hZ i (List.mem_range.1 hi)).1
    refine ⟨false, zs, by simp, hzn, by rw [hzl]; omega, ?_⟩
    have hav : a = ⟨a.block, a.off, none⟩ := by obtain ⟨b, o, s⟩ := a; simp only at hsp; subst hsp; rfl
    have hcell : ∀ k, k < zs.flatten.length → ∃ y, zs.flatten[k]? = some y ∧ w.cell? ⟨a.block, a.off + k, none⟩ = some (.int .i64 y) := fun k hk => by
      have hlen := length_flatten_uniform zs hzn
      rw [hlen, hzl] at hk
      have hn0 : 0 < n := by
        rcases Nat.eq_zero_or_pos n with e | e
        · subst e; omega
        · exact e
      have hil : k / n < len := Nat.div_lt_of_lt_mul (by rw [Nat.mul_comm]; exact hk)
      obtain ⟨h1, h2⟩ := hZ (k / n) hil
      have hj : k % n < (Z (k / n)).length := by rw [h1]; exact Nat.mod_lt _ hn0
      have hkk : k / n * n + k % n = k := by rw [Nat.mul_comm]; exact Nat.div_add_mod k n
      have := getElem?_flatten_uniform zs (k / n) (k % n) (Z (k / n)) hzn (by simp [zs, hil]) (Nat.mod_lt _ hn0)
      rw [hkk, List.getElem?_eq_getElem hj] at this
      have h3 := h2 (k % n) hj
      rw [hkk] at h3
      exact ⟨_, this, h3⟩
    have hflat : (zs.map fun z => z.map (C.int .i64)).flatten = zs.flatten.map (C.int .i64) := by rw [List.map_flatten]
    have := CR.sl (F := fun b _ => b < w.heap.size) (w := w) a.block a.off cap n none (zs.map fun z => z.map (C.int .i64)) (zs.flatten.map (Value.int .i64)) (by simp [hzl]; exact hl)
      (fun e he => by obtain ⟨z, hz, rfl⟩ := List.mem_map.1 he; simpa using hzn z hz)
      (by simp only [List.length_map]; exact length_flatten_uniform zs hzn)
      (fun k hk => by
        obtain ⟨y, _, h2⟩ := hcell k (by rw [List.length_map] at hk; exact hk)
        exact cell_size (a := ⟨a.block, a.off + k, none⟩) h2)
      (fun k hk => by
        obtain ⟨y, h1, h2⟩ := hcell k (by rw [List.length_map] at hk; exact hk)
        rw [h2, List.getElem?_map, h1]; rfl)
      (fun v hv => by obtain ⟨z, _, rfl⟩ := List.mem_map.1 hv; rfl)
      (fun k hk => by
        obtain ⟨y, h1, h2⟩ := hcell k (by rw [List.length_map] at hk; exact hk)
        rw [hflat, getD_eq, getD_eq, List.getElem?_map, List.getElem?_map, h1]
        exact .int _ _)
      (fun key b' e => by cases e)
    rw [List.length_map, hzl] at this
    rw [hav]
    exact this
end
end Go.Vm
end
section
open Go Go.Vm
namespace Go.Proofs.Ytcohdlochpjnjaa
set_option maxRecDepth 100000
def mkAtt (z : List Int) : Att := ⟨z.getD 0 0, z.getD 1 0, z.getD 2 0, z.getD 3 0, z.getD 4 0, z.getD 5 0, z.getD 6 0, z.getD 7 0⟩
def mkDel (z : List Int) : Del := ⟨z.getD 0 0, z.getD 1 0, z.getD 2 0⟩
theorem mkAtt_C (z : List Int) (h : z.length = 8) : z.map (C.int .i64) = attC (mkAtt z) := by
  match z, h with
  | [a, b, c, d, e, f, g, i], _ => rfl
theorem mkDel_C (z : List Int) (h : z.length = 3) : z.map (C.int .i64) = delC (mkDel z) := by
  match z, h with
  | [a, b, c], _ => rfl
theorem flat45 : flatI Try.prog 8 45 = true := by kernel_rfl
theorem flat62 : flatI Try.prog 8 62 = true := by kernel_rfl
theorem u28 : ∃ f0 f1, Try.prog.underlying 28 = some (.struct #[f0, f1]) ∧ f0.type = 3 ∧ f0.offset = 0 ∧ f1.type = 26 ∧ f1.offset = 1 := ⟨_, _, rfl, rfl, rfl, rfl, rfl⟩
theorem u26 : ∃ f0 f1, Try.prog.underlying 26 = some (.struct #[f0, f1]) ∧ f0.type = 23 ∧ f0.offset = 0 ∧ f1.type = 24 ∧ f1.offset = 1 := ⟨_, _, rfl, rfl, rfl, rfl, rfl⟩
theorem u23 : Try.prog.underlying 23 = some (.slice 45) := by kernel_rfl
theorem u24 : Try.prog.underlying 24 = some (.slice 62) := by kernel_rfl
theorem c45 : Try.prog.cellsOf 45 = 8 := by kernel_rfl
theorem c62 : Try.prog.cellsOf 62 = 3 := by kernel_rfl
theorem c28 : Try.prog.cellsOf 28 = 3 := by kernel_rfl
theorem c26 : Try.prog.cellsOf 26 = 2 := by kernel_rfl
theorem c3 : Try.prog.cellsOf 3 = 1 := by kernel_rfl
theorem c23 : Try.prog.cellsOf 23 = 1 := by kernel_rfl
theorem c24 : Try.prog.cellsOf 24 = 1 := by kernel_rfl
theorem ct28 : Try.prog.cellTypes Try.prog.depth 28 = some [3, 23, 24] := by kernel_rfl
section
variable {H : Type} {enc : TypeId × Value → H} {w : World} {base : Nat} {spare : Nat → Bool} {held : Bool}
theorem open_rec {b0 : Nat} {v : Value} {d : DataW H} {ps : List MemPlace} (hval : Value.okWide Try.prog w .any b0 28 v) (h : DataW.Trod enc Try.prog w base spare held 28 v d ps) :
    ∃ r : Rec, (r.an = true → r.atts = []) ∧ (r.dn = true → r.dels = []) ∧ r.atts.length ≤ maxLen ∧ r.dels.length ≤ maxLen ∧ VR (fun b _ => b < w.heap.size) w v (.agg (recC r)) := by
  obtain ⟨f0, f1, hu, t0, o0, t1, o1⟩ := u28
  obtain ⟨g0, g1, hu2, s0, p0, s1, p1⟩ := u26
  unfold Value.okWide at hval
  rw [hu] at hval
  obtain ⟨cs, rfl, hsz, ts, hts, _, hok⟩ := hval
  rw [ct28] at hts
  cases hts
  rw [c28] at hsz
  obtain ⟨fuel, hf⟩ := h
  obtain ⟨l⟩ := cs
  match l, hsz with
  | [x0, x1, x2], _ =>
    obtain ⟨xs, n, _, _, hlen, hxl, hfld⟩ := DataW.trod_struct hu hf
    have hx0 := hfld 0 f0 rfl
    have hx1 := hfld 1 f1 rfl
    rw [t0, o0, c3] at hx0
    rw [t1, o1, c26] at hx1
    simp only [Value.cells, List.drop, List.take] at hx0 hx1
    rw [List.getElem?_eq_getElem (by rw [hxl]; simp)] at hx0 hx1
    obtain ⟨sl, e0, _⟩ := DataW.trod_int (k := .i64) (by kernel_rfl) hx0
    cases e0
    obtain ⟨ys, n2, _, _, hlen2, hyl, hfld2⟩ := DataW.trod_struct hu2 hx1
    have hy0 := hfld2 0 g0 rfl
    have hy1 := hfld2 1 g1 rfl
    rw [s0, p0, c23] at hy0
    rw [s1, p1, c24] at hy1
    simp only [List.drop, List.take] at hy0 hy1
    rw [List.getElem?_eq_getElem (by rw [hyl]; simp)] at hy0 hy1
    have k1 : Cell.okWide Try.prog w .any b0 23 x1 := by
      obtain ⟨u, hu', hk⟩ := hok 1 x1 rfl
      cases hu'
      exact hk
    have k2 : Cell.okWide Try.prog w .any b0 24 x2 := by
      obtain ⟨u, hu', hk⟩ := hok 2 x2 rfl
      cases hu'
      exact hk
    obtain ⟨nl1, zs1, hn1, hz1, hl1, hr1⟩ := open_flat_slice u23 flat45 c45 hy0 (fun a len cap e => by
      subst e
      simp only [Cell.okWide, Cell.ok, u23] at k1
      exact k1.2.2.2.1)
    obtain ⟨nl2, zs2, hn2, hz2, hl2, hr2⟩ := open_flat_slice u24 flat62 c62 hy1 (fun a len cap e => by
      subst e
      simp only [Cell.okWide, Cell.ok, u24] at k2
      exact k2.2.2.2.1)
    have e1 : (zs1.map fun z => z.map (C.int .i64)) = (zs1.map mkAtt).map attC := by
      rw [List.map_map]
      exact List.map_congr_left fun z hz => mkAtt_C z (hz1 z hz)
    have e2 : (zs2.map fun z => z.map (C.int .i64)) = (zs2.map mkDel).map delC := by
      rw [List.map_map]
      exact List.map_congr_left fun z hz => mkDel_C z (hz2 z hz)
    rw [e1] at hr1
    rw [e2] at hr2
    refine ⟨⟨sl, nl1, zs1.map mkAtt, nl2, zs2.map mkDel⟩, fun e => by rw [hn1 e]; rfl, fun e => by rw [hn2 e]; rfl, by simpa using hl1, by simpa using hl2, .agg _ _ rfl fun k hk => ?_⟩
    match k, hk with
    | 0, _ => exact .int _ _
    | 1, _ => exact hr1
    | 2, _ => exact hr2
end
end Go.Proofs.Ytcohdlochpjnjaa
end
section
namespace Go.Vm
open Go.ChangeShapes Go.WideShapes Go.ChangeAt Go.RowKit
section
variable {H : Type} {enc : TypeId × Value → H} {P : Program}
/-- The frame of a row whose call leaves every older block as it was: its arguments are read again in the new world. -/
theorem post_below {f : Func} {s : ChangeSpec} {W W' : World} {args : Array Value} {v : Value} {ds gs : List (DataW H)} {all pa pv : List MemPlace}
    (hW : DataW.Whole enc P f.params.toList s.vars false W args.toList ds gs all) (hb : Below W.heap.size W W') (hall : all = pa ++ pv)
    (hres : ∀ (b : Nat) (sp : Nat → Bool) (hd : Bool), DataW.TrodAll enc P W' b sp hd f.resultTypes.toList (v.resultList f.resultTypes.size) (s.fn H (ds ++ gs)).results [])
    (hargs : ∀ sp : Nat → Bool, (∀ p ∈ all, sp p.block = true) → DataW.TrodAll enc P W' 0 sp true f.params.toList args.toList (s.fn H (ds ++ gs)).args pa)
    (hvars : ∀ sp : Nat → Bool, (∀ p ∈ all, sp p.block = true) → DataW.TrodVars enc P W' sp s.vars (s.fn H (ds ++ gs)).vars pv)
    (hok : ∀ (j : Nat) (t : TypeId) (r : Value), f.resultTypes[j]? = some t → (v.resultList f.resultTypes.size)[j]? = some r → Value.okWide P W' .any 0 t r) :
    s.post enc P f false true false false W args v W' := by
  have hlt := hW.lt
  have hold := fun (p : MemPlace) (hp : p ∈ all) => show (fun b => decide (b < W.heap.size)) p.block = true from decide_eq_true (hlt p hp)
  subst hall
  refine ⟨ds, gs, _, [], pa, pv, hW, hres _ _ _, hargs _ hold, hvars _ hold, hb.frame _, fun _ => ?_⟩
  obtain ⟨_, _, _, _, _, hz, hn⟩ := hW
  refine ⟨hok, _, _, ([] ++ pa) ++ pv, ⟨[] ++ pa, pv, trodAll_append (hargs _ fun _ _ => rfl) (hres _ _ _), hvars _ fun _ _ => rfl, rfl, fun b off hp => ?_, fun ha => by cases ha⟩, fun p hp _ => by simpa using hp⟩
  have hm : MemPlace.cell b off ∈ pa ++ pv := by simpa using hp
  rw [hb.frozen (p := ⟨b, off, none⟩) (hlt _ hm)]
  exact hz b off hm
end
end Go.Vm
end
