/- Lemmas for the statements of this seat: N1 N2 N3 N4 M20 M21. -/
import Derived.Test.YtngbpmiikpjiaaaB5
set_option linter.all false
section
open Go Go.Vm
namespace Go.Proofs.Ytngbpmiikpjiaaa
set_option maxRecDepth 100000
set_option maxHeartbeats 4000000
set_option linter.unusedSimpArgs false
attribute [-simp] isObj C.isO
@[simp] theorem tSize_128 : tSize Try.prog 128 = some 1 := by kernel_rfl
@[simp] theorem tAgg_128 : tAgg Try.prog 128 = some false := by kernel_rfl
@[simp] theorem tZero_128 : tZero Try.prog 128 = some [.nilf] := by kernel_rfl
structure Lnk where
  frm : Int
  to : Int
  loss : Int
structure Net where
  nodes : Int
  pn : Bool
  pow : List (Bool × List Int)
  noise : Int
  thr : Int
  ln : Bool
  links : List Lnk
  mn : Bool
  marg : List Int
@[simp] def lnkC (x : Lnk) : List C := [.int .i64 x.frm, .int .i64 x.to, .int .i64 x.loss]
def rowC (x : Bool × List Int) : List C := [.sl x.1 1 none (I1 x.2)]
@[simp] theorem rowC_len (x : Bool × List Int) : (rowC x).length = 1 := rfl
def netC (n : Net) : List C := [.int .i64 n.nodes, .sl n.pn 1 none (n.pow.map rowC), .int .i64 n.noise, .int .i64 n.thr, .sl n.ln 3 none (n.links.map lnkC), .sl n.mn 1 none (I1 n.marg)]
attribute [local irreducible] Tri Does DoesB DoesR Rounds check fault flowsE arr slotsOf inB findI
theorem indexR (f : FuncId) (p : Bool × List Int → Bool) (b : Nat) (cs : List C) (h : ∀ x, DoesB Try.prog f [.c (.sl x.1 1 none (I1 x.2)), .c (.box 100 b 0)] [(100, b, cs)] [] (fun _ => (.c (.bool (p x)), [(100, b, cs)], []))) (l : List (Bool × List Int)) (nl : Bool) (hl : l.length ≤ 1073741824) :
    DoesB Try.prog 113 [.c (.sl nl 1 none (l.map rowC)), .c (.fn f [.box 100 b 0])] [(100, b, cs)] [] (fun _ => (.c (.int .i64 (idxI p l)), [(100, b, cs)], [])) := by
  refine DoesB.of_body Try.func113 rfl (by kernel_rfl) rfl rfl (by simp) (fun _ => rfl) fun E => ?_
  repeat (first
    | (refine Tri.seq fun K hK => ?_)
    | (refine Tri.region ?_; simp [upd])
    | (refine Tri.draw (by kernel_rfl) (by decide +kernel) ?_; simp [upd])
    | (refine Tri.cond_true ?_ ?_; (focus simp [upd]; done))
    | (refine Tri.cond_false ?_ ?_; (focus simp [upd]; done))
    | (refine Tri.skip ?_; simp only [thenS, blockS])
    | (refine Tri.block_seq ?_)
    | (refine Tri.block_region ?_)
    | (refine Tri.block_cond ?_)
    | (refine Tri.exit ?_; simp [upd]; first | (rename ∀ st, Tri _ _ _ st _ → _ => hK; first | (apply hK; clear hK) | (clear hK; rename ∀ st, Tri _ _ _ st _ → _ => hK; first | (apply hK; clear hK) | (clear hK; rename ∀ st, Tri _ _ _ st _ → _ => hK; first | (apply hK; clear hK) | (clear hK; rename ∀ st, Tri _ _ _ st _ → _ => hK; first | (apply hK; clear hK) | (clear hK; rename ∀ st, Tri _ _ _ st _ → _ => hK; first | (apply hK; clear hK) | (clear hK; rename ∀ st, Tri _ _ _ st _ → _ => hK; apply hK; clear hK)))))) | skip)
    | (intro β)
    | (rename ∀ st, Tri _ _ _ st _ → _ => hK; apply hK; clear hK))
  refine Tri.range 8 7 9 18 19 rfl rfl l.length (fun k st => st.sl 0 = .c (.sl nl 1 none (l.map rowC)) ∧ st.sl 1 = .c (.fn f [.box 100 b 0]) ∧ st.bx 100 = some (b, cs) ∧ ∀ j (_ : j < l.length), j < k → p l[j] = false) (by simp) (by omega) ?_ rfl (by simp [upd]) (by simp [upd]) ?_ ?_ ?_
  · rintro k st t v ht ⟨a0, a1, a2, hb⟩
    rcases ht with rfl | rfl | rfl <;> exact ⟨by simpa [upd] using a0, by simpa [upd] using a1, by simpa using a2, hb⟩
  · exact ⟨by simp [upd], by simp [upd], by simp, fun j _ h => by omega⟩
  · rintro k st hk ⟨a0, a1, a2, hb⟩ hn h8 h7
    have g := h l[k]
    cases hp : p l[k]
    case true =>
      rw [idxI_at hk hp hb]
      rw [hp] at g
      repeat (first
        | (refine Tri.seq fun K hK => ?_)
        | (refine Tri.region ?_; simp [upd, hn, a0, a1, a2, h8, h7, hk, rowC])
        | (refine Tri.draw (by kernel_rfl) (by decide +kernel) ?_; simp [upd, hn, a0, a1, a2, h8, h7, hk, rowC])
        | (refine Tri.cond_true ?_ ?_; (focus simp [upd, hn, a0, a1, a2, h8, h7, hk, rowC]; done))
        | (refine Tri.cond_false ?_ ?_; (focus simp [upd, hn, a0, a1, a2, h8, h7, hk, rowC]; done))
        | (refine Tri.skip ?_; simp only [thenS, blockS])
        | (refine Tri.block_seq ?_)
        | (refine Tri.block_region ?_)
        | (refine Tri.block_cond ?_)
        | (refine CallK.look 100 g (Wks.refl _) ?_ ?_; (focus (simp [upd, a2]; done)); simp [upd, hn, a0, a1, a2, h8, h7, hk, rowC])
        | (refine Tri.exit ?_; simp [upd, hn, a0, a1, a2, h8, h7, hk, rowC]; first | (rename ∀ st, Tri _ _ _ st _ → _ => hK; first | (apply hK; clear hK) | (clear hK; rename ∀ st, Tri _ _ _ st _ → _ => hK; first | (apply hK; clear hK) | (clear hK; rename ∀ st, Tri _ _ _ st _ → _ => hK; first | (apply hK; clear hK) | (clear hK; rename ∀ st, Tri _ _ _ st _ → _ => hK; first | (apply hK; clear hK) | (clear hK; rename ∀ st, Tri _ _ _ st _ → _ => hK; first | (apply hK; clear hK) | (clear hK; rename ∀ st, Tri _ _ _ st _ → _ => hK; apply hK; clear hK)))))) | skip)
        | (intro β)
        | (rename ∀ st, Tri _ _ _ st _ → _ => hK; apply hK; clear hK))
      refine Tri.ret ⟨_, 0, [], rfl, ?_, ?_, trivial, by simp⟩
      · simp [upd]
        exact Wk.refl _
      · simp [upd, a2]
    rw [hp] at g
    repeat (first
      | (refine Tri.seq fun K hK => ?_)
      | (refine Tri.region ?_; simp [upd, hn, a0, a1, a2, h8, h7, hk, rowC])
      | (refine Tri.draw (by kernel_rfl) (by decide +kernel) ?_; simp [upd, hn, a0, a1, a2, h8, h7, hk, rowC])
      | (refine Tri.cond_true ?_ ?_; (focus simp [upd, hn, a0, a1, a2, h8, h7, hk, rowC]; done))
      | (refine Tri.cond_false ?_ ?_; (focus simp [upd, hn, a0, a1, a2, h8, h7, hk, rowC]; done))
      | (refine Tri.skip ?_; simp only [thenS, blockS])
      | (refine Tri.block_seq ?_)
      | (refine Tri.block_region ?_)
      | (refine Tri.block_cond ?_)
      | (refine CallK.look 100 g (Wks.refl _) ?_ ?_; (focus (simp [upd, a2]; done)); simp [upd, hn, a0, a1, a2, h8, h7, hk, rowC])
      | (refine Tri.exit ?_; simp [upd, hn, a0, a1, a2, h8, h7, hk, rowC]; first | (rename ∀ st, Tri _ _ _ st _ → _ => hK; first | (apply hK; clear hK) | (clear hK; rename ∀ st, Tri _ _ _ st _ → _ => hK; first | (apply hK; clear hK) | (clear hK; rename ∀ st, Tri _ _ _ st _ → _ => hK; first | (apply hK; clear hK) | (clear hK; rename ∀ st, Tri _ _ _ st _ → _ => hK; first | (apply hK; clear hK) | (clear hK; rename ∀ st, Tri _ _ _ st _ → _ => hK; first | (apply hK; clear hK) | (clear hK; rename ∀ st, Tri _ _ _ st _ → _ => hK; apply hK; clear hK)))))) | skip)
      | (intro β)
      | (rename ∀ st, Tri _ _ _ st _ → _ => hK; apply hK; clear hK))
    try simp [upd, h8, h7, a0, a1, a2]
    intro j hj hjk
    rcases Nat.lt_succ_iff_lt_or_eq.1 hjk with h' | rfl
    · exact hb j hj h'
    · exact hp
  · rintro st ⟨a0, a1, a2, hb⟩ hn
    rename ∀ st, Tri _ _ _ st _ → _ => hK
    apply hK
    rw [idxI_none (p := p) (l := l) fun j hj => hb j hj hj]
    repeat (first
      | (refine Tri.seq fun K hK => ?_)
      | (refine Tri.region ?_; simp [upd, hn, a2])
      | (refine Tri.draw (by kernel_rfl) (by decide +kernel) ?_; simp [upd, hn, a2])
      | (refine Tri.cond_true ?_ ?_; (focus simp [upd, hn, a2]; done))
      | (refine Tri.cond_false ?_ ?_; (focus simp [upd, hn, a2]; done))
      | (refine Tri.skip ?_; simp only [thenS, blockS])
      | (refine Tri.block_seq ?_)
      | (refine Tri.block_region ?_)
      | (refine Tri.block_cond ?_)
      | (refine Tri.exit ?_; simp [upd, hn, a2]; first | (rename ∀ st, Tri _ _ _ st _ → _ => hK; first | (apply hK; clear hK) | (clear hK; rename ∀ st, Tri _ _ _ st _ → _ => hK; first | (apply hK; clear hK) | (clear hK; rename ∀ st, Tri _ _ _ st _ → _ => hK; first | (apply hK; clear hK) | (clear hK; rename ∀ st, Tri _ _ _ st _ → _ => hK; first | (apply hK; clear hK) | (clear hK; rename ∀ st, Tri _ _ _ st _ → _ => hK; first | (apply hK; clear hK) | (clear hK; rename ∀ st, Tri _ _ _ st _ → _ => hK; apply hK; clear hK)))))) | skip)
      | (intro β)
      | (rename ∀ st, Tri _ _ _ st _ → _ => hK; apply hK; clear hK))
    refine Tri.ret ⟨_, 0, [], rfl, ?_, ?_, trivial, by simp⟩
    · simp [upd]
      exact Wk.refl _
    · simp [upd, a2]
theorem containsR (f : FuncId) (p : Bool × List Int → Bool) (b : Nat) (cs : List C) (h : ∀ x, DoesB Try.prog f [.c (.sl x.1 1 none (I1 x.2)), .c (.box 100 b 0)] [(100, b, cs)] [] (fun _ => (.c (.bool (p x)), [(100, b, cs)], []))) (l : List (Bool × List Int)) (nl : Bool) (hl : l.length ≤ 1073741824) :
    DoesB Try.prog 92 [.c (.sl nl 1 none (l.map rowC)), .c (.fn f [.box 100 b 0])] [(100, b, cs)] [] (fun _ => (.c (.bool (l.any p)), [(100, b, cs)], [])) := by
  have g := indexR f p b cs h l nl hl
  rw [← idxI_any]
  refine DoesB.of_body Try.func92 rfl (by kernel_rfl) rfl rfl (by simp) (fun _ => rfl) fun E => ?_
  repeat (first
    | (refine Tri.seq fun K hK => ?_)
    | (refine Tri.region ?_; simp [upd])
    | (refine Tri.draw (by kernel_rfl) (by decide +kernel) ?_; simp [upd])
    | (refine Tri.cond_true ?_ ?_; (focus simp [upd]; done))
    | (refine Tri.cond_false ?_ ?_; (focus simp [upd]; done))
    | (refine Tri.skip ?_; simp only [thenS, blockS])
    | (refine Tri.block_seq ?_)
    | (refine Tri.block_region ?_)
    | (refine Tri.block_cond ?_)
    | (refine CallK.look 100 g (Wks.refl _) ?_ ?_; (focus (simp [upd]; done)); simp [upd])
    | (refine Tri.exit ?_; simp [upd]; first | (rename ∀ st, Tri _ _ _ st _ → _ => hK; first | (apply hK; clear hK) | (clear hK; rename ∀ st, Tri _ _ _ st _ → _ => hK; first | (apply hK; clear hK) | (clear hK; rename ∀ st, Tri _ _ _ st _ → _ => hK; first | (apply hK; clear hK) | (clear hK; rename ∀ st, Tri _ _ _ st _ → _ => hK; first | (apply hK; clear hK) | (clear hK; rename ∀ st, Tri _ _ _ st _ → _ => hK; first | (apply hK; clear hK) | (clear hK; rename ∀ st, Tri _ _ _ st _ → _ => hK; apply hK; clear hK)))))) | skip)
    | (intro β)
    | (rename ∀ st, Tri _ _ _ st _ → _ => hK; apply hK; clear hK))
  refine Tri.ret ⟨_, 0, [], rfl, ?_, ?_, trivial, by simp⟩
  · simp [upd]
    exact Wk.refl _
  · simp [upd]
theorem indexI (f : FuncId) (p : Int → Bool) (h : ∀ x, Does Try.prog f [.c (.int .i64 x)] (.c (.bool (p x)))) (l : List Int) (nl : Bool) (hl : l.length ≤ 1073741824) :
    Does Try.prog 114 [.c (.sl nl 1 none (I1 l)), .c (.fn f [])] (.c (.int .i64 (idxI p l))) := by
  refine Does.of_body Try.func114 rfl (by kernel_rfl) rfl rfl (by simp) ?_
  intro E
  unfold I1
  repeat (first
    | (refine Tri.seq fun K hK => ?_)
    | (refine Tri.region ?_; simp [upd])
    | (refine Tri.draw (by kernel_rfl) (by decide +kernel) ?_; simp [upd])
    | (refine Tri.cond_true ?_ ?_; (focus simp [upd]; done))
    | (refine Tri.cond_false ?_ ?_; (focus simp [upd]; done))
    | (refine Tri.skip ?_; simp only [thenS, blockS])
    | (refine Tri.block_seq ?_)
    | (refine Tri.block_region ?_)
    | (refine Tri.block_cond ?_)
    | (refine Tri.exit ?_; simp [upd]; first | (rename ∀ st, Tri _ _ _ st _ → _ => hK; first | (apply hK; clear hK) | (clear hK; rename ∀ st, Tri _ _ _ st _ → _ => hK; first | (apply hK; clear hK) | (clear hK; rename ∀ st, Tri _ _ _ st _ → _ => hK; first | (apply hK; clear hK) | (clear hK; rename ∀ st, Tri _ _ _ st _ → _ => hK; first | (apply hK; clear hK) | (clear hK; rename ∀ st, Tri _ _ _ st _ → _ => hK; first | (apply hK; clear hK) | (clear hK; rename ∀ st, Tri _ _ _ st _ → _ => hK; apply hK; clear hK)))))) | skip)
    | (intro β)
    | (rename ∀ st, Tri _ _ _ st _ → _ => hK; apply hK; clear hK))
  refine Tri.range 8 7 9 18 19 rfl rfl l.length (fun k st => st.sl 0 = .c (.sl nl 1 none (l.map fun x => [.int .i64 x])) ∧ st.sl 1 = .c (.fn f []) ∧ ∀ j (_ : j < l.length), j < k → p l[j] = false) (by simp) (by omega) ?_ rfl (by simp [upd]) (by simp [upd]) ?_ ?_ ?_
  · rintro k st t v ht ⟨a0, a1, hb⟩
    rcases ht with rfl | rfl | rfl <;> exact ⟨by simpa [upd] using a0, by simpa [upd] using a1, hb⟩
  · exact ⟨by simp [upd], by simp [upd], fun j _ h => by omega⟩
  · rintro k st hk ⟨a0, a1, hb⟩ hn h8 h7
    have g := h l[k]
    cases hp : p l[k]
    case true =>
      rw [idxI_at hk hp hb]
      rw [hp] at g
      repeat (first
        | (refine Tri.seq fun K hK => ?_)
        | (refine Tri.region ?_; simp [upd, hn, a0, a1, h8, h7, hk])
        | (refine Tri.draw (by kernel_rfl) (by decide +kernel) ?_; simp [upd, hn, a0, a1, h8, h7, hk])
        | (refine Tri.cond_true ?_ ?_; (focus simp [upd, hn, a0, a1, h8, h7, hk]; done))
        | (refine Tri.cond_false ?_ ?_; (focus simp [upd, hn, a0, a1, h8, h7, hk]; done))
        | (refine Tri.skip ?_; simp only [thenS, blockS])
        | (refine Tri.block_seq ?_)
        | (refine Tri.block_region ?_)
        | (refine Tri.block_cond ?_)
        | ((with_reducible refine CallK.pure (g) (Wks.refl _) ?_); simp [upd, hn, a0, a1, h8, h7, hk])
        | (refine Tri.exit ?_; simp [upd, hn, a0, a1, h8, h7, hk]; first | (rename ∀ st, Tri _ _ _ st _ → _ => hK; first | (apply hK; clear hK) | (clear hK; rename ∀ st, Tri _ _ _ st _ → _ => hK; first | (apply hK; clear hK) | (clear hK; rename ∀ st, Tri _ _ _ st _ → _ => hK; first | (apply hK; clear hK) | (clear hK; rename ∀ st, Tri _ _ _ st _ → _ => hK; first | (apply hK; clear hK) | (clear hK; rename ∀ st, Tri _ _ _ st _ → _ => hK; first | (apply hK; clear hK) | (clear hK; rename ∀ st, Tri _ _ _ st _ → _ => hK; apply hK; clear hK)))))) | skip)
        | (intro β)
        | (rename ∀ st, Tri _ _ _ st _ → _ => hK; apply hK; clear hK))
      refine Tri.ret ⟨_, rfl, ?_⟩
      simp [upd]
      exact Wk.refl _
    rw [hp] at g
    repeat (first
      | (refine Tri.seq fun K hK => ?_)
      | (refine Tri.region ?_; simp [upd, hn, a0, a1, h8, h7, hk])
      | (refine Tri.draw (by kernel_rfl) (by decide +kernel) ?_; simp [upd, hn, a0, a1, h8, h7, hk])
      | (refine Tri.cond_true ?_ ?_; (focus simp [upd, hn, a0, a1, h8, h7, hk]; done))
      | (refine Tri.cond_false ?_ ?_; (focus simp [upd, hn, a0, a1, h8, h7, hk]; done))
      | (refine Tri.skip ?_; simp only [thenS, blockS])
      | (refine Tri.block_seq ?_)
      | (refine Tri.block_region ?_)
      | (refine Tri.block_cond ?_)
      | ((with_reducible refine CallK.pure (g) (Wks.refl _) ?_); simp [upd, hn, a0, a1, h8, h7, hk])
      | (refine Tri.exit ?_; simp [upd, hn, a0, a1, h8, h7, hk]; first | (rename ∀ st, Tri _ _ _ st _ → _ => hK; first | (apply hK; clear hK) | (clear hK; rename ∀ st, Tri _ _ _ st _ → _ => hK; first | (apply hK; clear hK) | (clear hK; rename ∀ st, Tri _ _ _ st _ → _ => hK; first | (apply hK; clear hK) | (clear hK; rename ∀ st, Tri _ _ _ st _ → _ => hK; first | (apply hK; clear hK) | (clear hK; rename ∀ st, Tri _ _ _ st _ → _ => hK; first | (apply hK; clear hK) | (clear hK; rename ∀ st, Tri _ _ _ st _ → _ => hK; apply hK; clear hK)))))) | skip)
      | (intro β)
      | (rename ∀ st, Tri _ _ _ st _ → _ => hK; apply hK; clear hK))
    try simp [upd, h8, h7, a0, a1]
    intro j hj hjk
    rcases Nat.lt_succ_iff_lt_or_eq.1 hjk with h' | rfl
    · exact hb j hj h'
    · exact hp
  · rintro st ⟨a0, a1, hb⟩ hn
    rename ∀ st, Tri _ _ _ st _ → _ => hK
    apply hK
    rw [idxI_none (p := p) (l := l) fun j hj => hb j hj hj]
    repeat (first
      | (refine Tri.seq fun K hK => ?_)
      | (refine Tri.region ?_; simp [upd, hn])
      | (refine Tri.draw (by kernel_rfl) (by decide +kernel) ?_; simp [upd, hn])
      | (refine Tri.cond_true ?_ ?_; (focus simp [upd, hn]; done))
      | (refine Tri.cond_false ?_ ?_; (focus simp [upd, hn]; done))
      | (refine Tri.skip ?_; simp only [thenS, blockS])
      | (refine Tri.block_seq ?_)
      | (refine Tri.block_region ?_)
      | (refine Tri.block_cond ?_)
      | (refine Tri.exit ?_; simp [upd, hn]; first | (rename ∀ st, Tri _ _ _ st _ → _ => hK; first | (apply hK; clear hK) | (clear hK; rename ∀ st, Tri _ _ _ st _ → _ => hK; first | (apply hK; clear hK) | (clear hK; rename ∀ st, Tri _ _ _ st _ → _ => hK; first | (apply hK; clear hK) | (clear hK; rename ∀ st, Tri _ _ _ st _ → _ => hK; first | (apply hK; clear hK) | (clear hK; rename ∀ st, Tri _ _ _ st _ → _ => hK; first | (apply hK; clear hK) | (clear hK; rename ∀ st, Tri _ _ _ st _ → _ => hK; apply hK; clear hK)))))) | skip)
      | (intro β)
      | (rename ∀ st, Tri _ _ _ st _ → _ => hK; apply hK; clear hK))
    refine Tri.ret ⟨_, rfl, ?_⟩
    simp [upd]
    exact Wk.refl _
theorem containsI (f : FuncId) (p : Int → Bool) (h : ∀ x, Does Try.prog f [.c (.int .i64 x)] (.c (.bool (p x)))) (l : List Int) (nl : Bool) (hl : l.length ≤ 1073741824) :
    Does Try.prog 96 [.c (.sl nl 1 none (I1 l)), .c (.fn f [])] (.c (.bool (l.any p))) := by
  have g := indexI f p h l nl hl
  rw [← idxI_any]
  refine Does.of_body Try.func96 rfl (by kernel_rfl) rfl rfl (by simp) ?_
  intro E
  repeat (first
    | (refine Tri.seq fun K hK => ?_)
    | (refine Tri.region ?_; simp [upd])
    | (refine Tri.draw (by kernel_rfl) (by decide +kernel) ?_; simp [upd])
    | (refine Tri.cond_true ?_ ?_; (focus simp [upd]; done))
    | (refine Tri.cond_false ?_ ?_; (focus simp [upd]; done))
    | (refine Tri.skip ?_; simp only [thenS, blockS])
    | (refine Tri.block_seq ?_)
    | (refine Tri.block_region ?_)
    | (refine Tri.block_cond ?_)
    | ((with_reducible refine CallK.pure (g) (Wks.refl _) ?_); simp [upd])
    | (refine Tri.exit ?_; simp [upd]; first | (rename ∀ st, Tri _ _ _ st _ → _ => hK; first | (apply hK; clear hK) | (clear hK; rename ∀ st, Tri _ _ _ st _ → _ => hK; first | (apply hK; clear hK) | (clear hK; rename ∀ st, Tri _ _ _ st _ → _ => hK; first | (apply hK; clear hK) | (clear hK; rename ∀ st, Tri _ _ _ st _ → _ => hK; first | (apply hK; clear hK) | (clear hK; rename ∀ st, Tri _ _ _ st _ → _ => hK; first | (apply hK; clear hK) | (clear hK; rename ∀ st, Tri _ _ _ st _ → _ => hK; apply hK; clear hK)))))) | skip)
    | (intro β)
    | (rename ∀ st, Tri _ _ _ st _ → _ => hK; apply hK; clear hK))
  refine Tri.ret ⟨_, rfl, ?_⟩
  simp [upd]
  exact Wk.refl _
def powB (x : Int) : Bool := decide (x < 0) || decide (68719476736 < x)
theorem clo94 (x : Int) : Does Try.prog 94 [.c (.int .i64 x)] (.c (.bool (powB x))) := by
  refine Does.of_body Try.func94 rfl (by kernel_rfl) rfl rfl (by simp) ?_
  intro E
  unfold powB
  by_cases h1 : x < 0
  · rw [decide_eq_true h1, Bool.true_or]
    repeat (first
      | (refine Tri.seq fun K hK => ?_)
      | (refine Tri.region ?_; simp [upd, h1])
      | (refine Tri.draw (by kernel_rfl) (by decide +kernel) ?_; simp [upd, h1])
      | (refine Tri.cond_true ?_ ?_; (focus simp [upd, h1]; done))
      | (refine Tri.cond_false ?_ ?_; (focus simp [upd, h1]; done))
      | (refine Tri.skip ?_; simp only [thenS, blockS])
      | (refine Tri.block_seq ?_)
      | (refine Tri.block_region ?_)
      | (refine Tri.block_cond ?_)
      | (refine Tri.exit ?_; simp [upd, h1]; first | (rename ∀ st, Tri _ _ _ st _ → _ => hK; first | (apply hK; clear hK) | (clear hK; rename ∀ st, Tri _ _ _ st _ → _ => hK; first | (apply hK; clear hK) | (clear hK; rename ∀ st, Tri _ _ _ st _ → _ => hK; first | (apply hK; clear hK) | (clear hK; rename ∀ st, Tri _ _ _ st _ → _ => hK; first | (apply hK; clear hK) | (clear hK; rename ∀ st, Tri _ _ _ st _ → _ => hK; first | (apply hK; clear hK) | (clear hK; rename ∀ st, Tri _ _ _ st _ → _ => hK; apply hK; clear hK)))))) | skip)
      | (intro β)
      | (rename ∀ st, Tri _ _ _ st _ → _ => hK; apply hK; clear hK))
    refine Tri.ret ⟨_, rfl, ?_⟩
    simp [upd]
    exact Wk.refl _
  · rw [decide_eq_false h1, Bool.false_or]
    by_cases h2 : 68719476736 < x
    · rw [decide_eq_true h2]
      repeat (first
        | (refine Tri.seq fun K hK => ?_)
        | (refine Tri.region ?_; simp [upd, h1, h2])
        | (refine Tri.draw (by kernel_rfl) (by decide +kernel) ?_; simp [upd, h1, h2])
        | (refine Tri.cond_true ?_ ?_; (focus simp [upd, h1, h2]; done))
        | (refine Tri.cond_false ?_ ?_; (focus simp [upd, h1, h2]; done))
        | (refine Tri.skip ?_; simp only [thenS, blockS])
        | (refine Tri.block_seq ?_)
        | (refine Tri.block_region ?_)
        | (refine Tri.block_cond ?_)
        | (refine Tri.exit ?_; simp [upd, h1, h2]; first | (rename ∀ st, Tri _ _ _ st _ → _ => hK; first | (apply hK; clear hK) | (clear hK; rename ∀ st, Tri _ _ _ st _ → _ => hK; first | (apply hK; clear hK) | (clear hK; rename ∀ st, Tri _ _ _ st _ → _ => hK; first | (apply hK; clear hK) | (clear hK; rename ∀ st, Tri _ _ _ st _ → _ => hK; first | (apply hK; clear hK) | (clear hK; rename ∀ st, Tri _ _ _ st _ → _ => hK; first | (apply hK; clear hK) | (clear hK; rename ∀ st, Tri _ _ _ st _ → _ => hK; apply hK; clear hK)))))) | skip)
        | (intro β)
        | (rename ∀ st, Tri _ _ _ st _ → _ => hK; apply hK; clear hK))
      refine Tri.ret ⟨_, rfl, ?_⟩
      simp [upd]
      exact Wk.refl _
    · rw [decide_eq_false h2]
      repeat (first
        | (refine Tri.seq fun K hK => ?_)
        | (refine Tri.region ?_; simp [upd, h1, h2])
        | (refine Tri.draw (by kernel_rfl) (by decide +kernel) ?_; simp [upd, h1, h2])
        | (refine Tri.cond_true ?_ ?_; (focus simp [upd, h1, h2]; done))
        | (refine Tri.cond_false ?_ ?_; (focus simp [upd, h1, h2]; done))
        | (refine Tri.skip ?_; simp only [thenS, blockS])
        | (refine Tri.block_seq ?_)
        | (refine Tri.block_region ?_)
        | (refine Tri.block_cond ?_)
        | (refine Tri.exit ?_; simp [upd, h1, h2]; first | (rename ∀ st, Tri _ _ _ st _ → _ => hK; first | (apply hK; clear hK) | (clear hK; rename ∀ st, Tri _ _ _ st _ → _ => hK; first | (apply hK; clear hK) | (clear hK; rename ∀ st, Tri _ _ _ st _ → _ => hK; first | (apply hK; clear hK) | (clear hK; rename ∀ st, Tri _ _ _ st _ → _ => hK; first | (apply hK; clear hK) | (clear hK; rename ∀ st, Tri _ _ _ st _ → _ => hK; first | (apply hK; clear hK) | (clear hK; rename ∀ st, Tri _ _ _ st _ → _ => hK; apply hK; clear hK)))))) | skip)
        | (intro β)
        | (rename ∀ st, Tri _ _ _ st _ → _ => hK; apply hK; clear hK))
      refine Tri.ret ⟨_, rfl, ?_⟩
      simp [upd]
      exact Wk.refl _
theorem clo93 (x : Bool × List Int) (b : Nat) (n : Net) : DoesB Try.prog 93 [.c (.sl x.1 1 none (I1 x.2)), .c (.box 100 b 0)] [(100, b, netC n)] [] (fun _ => (.c (.bool (!((x.2.length : Int) == n.nodes))), [(100, b, netC n)], [])) := by
  refine DoesB.of_body Try.func93 rfl (by kernel_rfl) rfl rfl (by simp) (fun _ => rfl) fun E => ?_
  unfold netC
  have hl : (I1 x.2).length = x.2.length := by simp [I1]
  repeat (first
    | (refine Tri.seq fun K hK => ?_)
    | (refine Tri.region ?_; simp [upd, hl, bne])
    | (refine Tri.draw (by kernel_rfl) (by decide +kernel) ?_; simp [upd, hl, bne])
    | (refine Tri.cond_true ?_ ?_; (focus simp [upd, hl, bne]; done))
    | (refine Tri.cond_false ?_ ?_; (focus simp [upd, hl, bne]; done))
    | (refine Tri.skip ?_; simp only [thenS, blockS])
    | (refine Tri.block_seq ?_)
    | (refine Tri.block_region ?_)
    | (refine Tri.block_cond ?_)
    | (refine Tri.exit ?_; simp [upd, hl, bne]; first | (rename ∀ st, Tri _ _ _ st _ → _ => hK; first | (apply hK; clear hK) | (clear hK; rename ∀ st, Tri _ _ _ st _ → _ => hK; first | (apply hK; clear hK) | (clear hK; rename ∀ st, Tri _ _ _ st _ → _ => hK; first | (apply hK; clear hK) | (clear hK; rename ∀ st, Tri _ _ _ st _ → _ => hK; first | (apply hK; clear hK) | (clear hK; rename ∀ st, Tri _ _ _ st _ → _ => hK; first | (apply hK; clear hK) | (clear hK; rename ∀ st, Tri _ _ _ st _ → _ => hK; apply hK; clear hK)))))) | skip)
    | (intro β)
    | (rename ∀ st, Tri _ _ _ st _ → _ => hK; apply hK; clear hK))
  refine Tri.ret ⟨_, 0, [], rfl, ?_, ?_, trivial, by simp⟩
  · simp [upd]
    exact Wk.refl _
  · simp [upd]
theorem clo95 (x : Bool × List Int) (b : Nat) (hl : x.2.length ≤ 1073741824) : DoesB Try.prog 95 [.c (.sl x.1 1 none (I1 x.2)), .c (.box 100 b 0)] [(100, b, [.fn 94 []])] [] (fun _ => (.c (.bool (x.2.any powB)), [(100, b, [.fn 94 []])], [])) := by
  refine DoesB.of_body Try.func95 rfl (by kernel_rfl) rfl rfl (by simp) (fun _ => rfl) fun E => ?_
  have g := containsI 94 powB clo94 x.2 x.1 hl
  repeat (first
    | (refine Tri.seq fun K hK => ?_)
    | (refine Tri.region ?_; simp [upd])
    | (refine Tri.draw (by kernel_rfl) (by decide +kernel) ?_; simp [upd])
    | (refine Tri.cond_true ?_ ?_; (focus simp [upd]; done))
    | (refine Tri.cond_false ?_ ?_; (focus simp [upd]; done))
    | (refine Tri.skip ?_; simp only [thenS, blockS])
    | (refine Tri.block_seq ?_)
    | (refine Tri.block_region ?_)
    | (refine Tri.block_cond ?_)
    | ((with_reducible refine CallK.pure (g) (Wks.refl _) ?_); simp [upd])
    | (refine Tri.exit ?_; simp [upd]; first | (rename ∀ st, Tri _ _ _ st _ → _ => hK; first | (apply hK; clear hK) | (clear hK; rename ∀ st, Tri _ _ _ st _ → _ => hK; first | (apply hK; clear hK) | (clear hK; rename ∀ st, Tri _ _ _ st _ → _ => hK; first | (apply hK; clear hK) | (clear hK; rename ∀ st, Tri _ _ _ st _ → _ => hK; first | (apply hK; clear hK) | (clear hK; rename ∀ st, Tri _ _ _ st _ → _ => hK; first | (apply hK; clear hK) | (clear hK; rename ∀ st, Tri _ _ _ st _ → _ => hK; apply hK; clear hK)))))) | skip)
    | (intro β)
    | (rename ∀ st, Tri _ _ _ st _ → _ => hK; apply hK; clear hK))
  refine Tri.ret ⟨_, 0, [], rfl, ?_, ?_, trivial, by simp⟩
  · simp [upd]
    exact Wk.refl _
  · simp [upd]
/-- The fault of the table of powers. -/
def shapeB (n : Net) : Bool := !((n.pow.length : Int) == n.nodes) || n.pow.any fun x => !((x.2.length : Int) == n.nodes)
def powE (n : Net) : Int := if shapeB n = true then 1 else if (n.pow.any fun x => x.2.any powB) = true then 2 else 0
end Go.Proofs.Ytngbpmiikpjiaaa
end
section
open Go Go.Vm
namespace Go.Proofs.Ytngbpmiikpjiaaa
set_option maxRecDepth 100000
set_option maxHeartbeats 4000000
set_option linter.unusedSimpArgs false
attribute [-simp] isObj C.isO
attribute [local irreducible] Tri Does DoesB DoesR Rounds check fault flowsE arr slotsOf inB findI
/-- Sizes that can be. -/
structure NetOk (n : Net) : Prop where
  pl : n.pow.length ≤ 1073741824
  rl : ∀ x ∈ n.pow, x.2.length ≤ 1073741824
  ll : n.links.length ≤ 1073741824
  ml : n.marg.length ≤ 1073741824
def rowBad (nodes : Int) (x : Bool × List Int) : Bool := !((x.2.length : Int) == nodes)
def rowPow (x : Bool × List Int) : Bool := x.2.any powB
theorem indexR' (f : FuncId) (p : Bool × List Int → Bool) (b : Nat) (cs : List C) (l : List (Bool × List Int)) (h : ∀ x ∈ l, DoesB Try.prog f [.c (.sl x.1 1 none (I1 x.2)), .c (.box 100 b 0)] [(100, b, cs)] [] (fun _ => (.c (.bool (p x)), [(100, b, cs)], []))) (nl : Bool) (hl : l.length ≤ 1073741824) :
    DoesB Try.prog 113 [.c (.sl nl 1 none (l.map rowC)), .c (.fn f [.box 100 b 0])] [(100, b, cs)] [] (fun _ => (.c (.int .i64 (idxI p l)), [(100, b, cs)], [])) := by
  refine DoesB.of_body Try.func113 rfl (by kernel_rfl) rfl rfl (by simp) (fun _ => rfl) fun E => ?_
  repeat (first
    | (refine Tri.seq fun K hK => ?_)
    | (refine Tri.region ?_; simp [upd])
    | (refine Tri.draw (by kernel_rfl) (by decide +kernel) ?_; simp [upd])
    | (refine Tri.cond_true ?_ ?_; (focus simp [upd]; done))
    | (refine Tri.cond_false ?_ ?_; (focus simp [upd]; done))
    | (refine Tri.skip ?_; simp only [thenS, blockS])
    | (refine Tri.block_seq ?_)
    | (refine Tri.block_region ?_)
    | (refine Tri.block_cond ?_)
    | (refine Tri.exit ?_; simp [upd]; first | (rename ∀ st, Tri _ _ _ st _ → _ => hK; first | (apply hK; clear hK) | (clear hK; rename ∀ st, Tri _ _ _ st _ → _ => hK; first | (apply hK; clear hK) | (clear hK; rename ∀ st, Tri _ _ _ st _ → _ => hK; first | (apply hK; clear hK) | (clear hK; rename ∀ st, Tri _ _ _ st _ → _ => hK; first | (apply hK; clear hK) | (clear hK; rename ∀ st, Tri _ _ _ st _ → _ => hK; first | (apply hK; clear hK) | (clear hK; rename ∀ st, Tri _ _ _ st _ → _ => hK; apply hK; clear hK)))))) | skip)
    | (intro β)
    | (rename ∀ st, Tri _ _ _ st _ → _ => hK; apply hK; clear hK))
  refine Tri.range 8 7 9 18 19 rfl rfl l.length (fun k st => st.sl 0 = .c (.sl nl 1 none (l.map rowC)) ∧ st.sl 1 = .c (.fn f [.box 100 b 0]) ∧ st.bx 100 = some (b, cs) ∧ ∀ j (_ : j < l.length), j < k → p l[j] = false) (by simp) (by omega) ?_ rfl (by simp [upd]) (by simp [upd]) ?_ ?_ ?_
  · rintro k st t v ht ⟨a0, a1, a2, hb⟩
    rcases ht with rfl | rfl | rfl <;> exact ⟨by simpa [upd] using a0, by simpa [upd] using a1, by simpa using a2, hb⟩
  · exact ⟨by simp [upd], by simp [upd], by simp, fun j _ h => by omega⟩
  · rintro k st hk ⟨a0, a1, a2, hb⟩ hn h8 h7
    have g := h l[k] (List.getElem_mem hk)
    cases hp : p l[k]
    case true =>
      rw [idxI_at hk hp hb]
      rw [hp] at g
      repeat (first
        | (refine Tri.seq fun K hK => ?_)
        | (refine Tri.region ?_; simp [upd, hn, a0, a1, a2, h8, h7, hk, rowC])
        | (refine Tri.draw (by kernel_rfl) (by decide +kernel) ?_; simp [upd, hn, a0, a1, a2, h8, h7, hk, rowC])
        | (refine Tri.cond_true ?_ ?_; (focus simp [upd, hn, a0, a1, a2, h8, h7, hk, rowC]; done))
        | (refine Tri.cond_false ?_ ?_; (focus simp [upd, hn, a0, a1, a2, h8, h7, hk, rowC]; done))
        | (refine Tri.skip ?_; simp only [thenS, blockS])
        | (refine Tri.block_seq ?_)
        | (refine Tri.block_region ?_)
        | (refine Tri.block_cond ?_)
        | (refine CallK.look 100 g (Wks.refl _) ?_ ?_; (focus (simp [upd, a2]; done)); simp [upd, hn, a0, a1, a2, h8, h7, hk, rowC])
        | (refine Tri.exit ?_; simp [upd, hn, a0, a1, a2, h8, h7, hk, rowC]; first | (rename ∀ st, Tri _ _ _ st _ → _ => hK; first | (apply hK; clear hK) | (clear hK; rename ∀ st, Tri _ _ _ st _ → _ => hK; first | (apply hK; clear hK) | (clear hK; rename ∀ st, Tri _ _ _ st _ → _ => hK; first | (apply hK; clear hK) | (clear hK; rename ∀ st, Tri _ _ _ st _ → _ => hK; first | (apply hK; clear hK) | (clear hK; rename ∀ st, Tri _ _ _ st _ → _ => hK; first | (apply hK; clear hK) | (clear hK; rename ∀ st, Tri _ _ _ st _ → _ => hK; apply hK; clear hK)))))) | skip)
        | (intro β)
        | (rename ∀ st, Tri _ _ _ st _ → _ => hK; apply hK; clear hK))
      refine Tri.ret ⟨_, 0, [], rfl, ?_, ?_, trivial, by simp⟩
      · simp [upd]
        exact Wk.refl _
      · simp [upd, a2]
    rw [hp] at g
    repeat (first
      | (refine Tri.seq fun K hK => ?_)
      | (refine Tri.region ?_; simp [upd, hn, a0, a1, a2, h8, h7, hk, rowC])
      | (refine Tri.draw (by kernel_rfl) (by decide +kernel) ?_; simp [upd, hn, a0, a1, a2, h8, h7, hk, rowC])
      | (refine Tri.cond_true ?_ ?_; (focus simp [upd, hn, a0, a1, a2, h8, h7, hk, rowC]; done))
      | (refine Tri.cond_false ?_ ?_; (focus simp [upd, hn, a0, a1, a2, h8, h7, hk, rowC]; done))
      | (refine Tri.skip ?_; simp only [thenS, blockS])
      | (refine Tri.block_seq ?_)
      | (refine Tri.block_region ?_)
      | (refine Tri.block_cond ?_)
      | (refine CallK.look 100 g (Wks.refl _) ?_ ?_; (focus (simp [upd, a2]; done)); simp [upd, hn, a0, a1, a2, h8, h7, hk, rowC])
      | (refine Tri.exit ?_; simp [upd, hn, a0, a1, a2, h8, h7, hk, rowC]; first | (rename ∀ st, Tri _ _ _ st _ → _ => hK; first | (apply hK; clear hK) | (clear hK; rename ∀ st, Tri _ _ _ st _ → _ => hK; first | (apply hK; clear hK) | (clear hK; rename ∀ st, Tri _ _ _ st _ → _ => hK; first | (apply hK; clear hK) | (clear hK; rename ∀ st, Tri _ _ _ st _ → _ => hK; first | (apply hK; clear hK) | (clear hK; rename ∀ st, Tri _ _ _ st _ → _ => hK; first | (apply hK; clear hK) | (clear hK; rename ∀ st, Tri _ _ _ st _ → _ => hK; apply hK; clear hK)))))) | skip)
      | (intro β)
      | (rename ∀ st, Tri _ _ _ st _ → _ => hK; apply hK; clear hK))
    try simp [upd, h8, h7, a0, a1, a2]
    intro j hj hjk
    rcases Nat.lt_succ_iff_lt_or_eq.1 hjk with h' | rfl
    · exact hb j hj h'
    · exact hp
  · rintro st ⟨a0, a1, a2, hb⟩ hn
    rename ∀ st, Tri _ _ _ st _ → _ => hK
    apply hK
    rw [idxI_none (p := p) (l := l) fun j hj => hb j hj hj]
    repeat (first
      | (refine Tri.seq fun K hK => ?_)
      | (refine Tri.region ?_; simp [upd, hn, a2])
      | (refine Tri.draw (by kernel_rfl) (by decide +kernel) ?_; simp [upd, hn, a2])
      | (refine Tri.cond_true ?_ ?_; (focus simp [upd, hn, a2]; done))
      | (refine Tri.cond_false ?_ ?_; (focus simp [upd, hn, a2]; done))
      | (refine Tri.skip ?_; simp only [thenS, blockS])
      | (refine Tri.block_seq ?_)
      | (refine Tri.block_region ?_)
      | (refine Tri.block_cond ?_)
      | (refine Tri.exit ?_; simp [upd, hn, a2]; first | (rename ∀ st, Tri _ _ _ st _ → _ => hK; first | (apply hK; clear hK) | (clear hK; rename ∀ st, Tri _ _ _ st _ → _ => hK; first | (apply hK; clear hK) | (clear hK; rename ∀ st, Tri _ _ _ st _ → _ => hK; first | (apply hK; clear hK) | (clear hK; rename ∀ st, Tri _ _ _ st _ → _ => hK; first | (apply hK; clear hK) | (clear hK; rename ∀ st, Tri _ _ _ st _ → _ => hK; first | (apply hK; clear hK) | (clear hK; rename ∀ st, Tri _ _ _ st _ → _ => hK; apply hK; clear hK)))))) | skip)
      | (intro β)
      | (rename ∀ st, Tri _ _ _ st _ → _ => hK; apply hK; clear hK))
    refine Tri.ret ⟨_, 0, [], rfl, ?_, ?_, trivial, by simp⟩
    · simp [upd]
      exact Wk.refl _
    · simp [upd, a2]
theorem containsR' (f : FuncId) (p : Bool × List Int → Bool) (b : Nat) (cs : List C) (l : List (Bool × List Int)) (h : ∀ x ∈ l, DoesB Try.prog f [.c (.sl x.1 1 none (I1 x.2)), .c (.box 100 b 0)] [(100, b, cs)] [] (fun _ => (.c (.bool (p x)), [(100, b, cs)], []))) (nl : Bool) (hl : l.length ≤ 1073741824) :
    DoesB Try.prog 92 [.c (.sl nl 1 none (l.map rowC)), .c (.fn f [.box 100 b 0])] [(100, b, cs)] [] (fun _ => (.c (.bool (l.any p)), [(100, b, cs)], [])) := by
  have g := indexR' f p b cs l h nl hl
  rw [← idxI_any]
  refine DoesB.of_body Try.func92 rfl (by kernel_rfl) rfl rfl (by simp) (fun _ => rfl) fun E => ?_
  repeat (first
    | (refine Tri.seq fun K hK => ?_)
    | (refine Tri.region ?_; simp [upd])
    | (refine Tri.draw (by kernel_rfl) (by decide +kernel) ?_; simp [upd])
    | (refine Tri.cond_true ?_ ?_; (focus simp [upd]; done))
    | (refine Tri.cond_false ?_ ?_; (focus simp [upd]; done))
    | (refine Tri.skip ?_; simp only [thenS, blockS])
    | (refine Tri.block_seq ?_)
    | (refine Tri.block_region ?_)
    | (refine Tri.block_cond ?_)
    | (refine CallK.look 100 g (Wks.refl _) ?_ ?_; (focus (simp [upd]; done)); simp [upd])
    | (refine Tri.exit ?_; simp [upd]; first | (rename ∀ st, Tri _ _ _ st _ → _ => hK; first | (apply hK; clear hK) | (clear hK; rename ∀ st, Tri _ _ _ st _ → _ => hK; first | (apply hK; clear hK) | (clear hK; rename ∀ st, Tri _ _ _ st _ → _ => hK; first | (apply hK; clear hK) | (clear hK; rename ∀ st, Tri _ _ _ st _ → _ => hK; first | (apply hK; clear hK) | (clear hK; rename ∀ st, Tri _ _ _ st _ → _ => hK; first | (apply hK; clear hK) | (clear hK; rename ∀ st, Tri _ _ _ st _ → _ => hK; apply hK; clear hK)))))) | skip)
    | (intro β)
    | (rename ∀ st, Tri _ _ _ st _ → _ => hK; apply hK; clear hK))
  refine Tri.ret ⟨_, 0, [], rfl, ?_, ?_, trivial, by simp⟩
  · simp [upd]
    exact Wk.refl _
  · simp [upd]
theorem powE_eq (n : Net) : powE n = if ((n.pow.length : Int) == n.nodes) = false then 1 else if n.pow.any (rowBad n.nodes) = true then 1 else if n.pow.any rowPow = true then 2 else 0 := by
  unfold powE shapeB
  cases h1 : ((n.pow.length : Int) == n.nodes)
  · simp
  · cases h2 : n.pow.any (rowBad n.nodes)
    · have : (n.pow.any fun x => !((x.2.length : Int) == n.nodes)) = false := h2
      rw [this]; simp; rfl
    · have : (n.pow.any fun x => !((x.2.length : Int) == n.nodes)) = true := h2
      rw [this]; simp
theorem checkPower_does (n : Net) (h : NetOk n) : Does Try.prog 72 [.agg (netC n)] (.c (.int .i64 (powE n))) := by
  refine Does.of_body Try.func72 rfl (by kernel_rfl) rfl rfl (by simp) ?_
  intro E
  have c1 := fun b => containsR 93 (rowBad n.nodes) b (netC n) (fun x => clo93 x b n) n.pow n.pn h.pl
  have c2 := fun b => containsR' 95 rowPow b [.fn 94 []] n.pow (fun x hx => clo95 x b (h.rl x hx)) n.pn h.pl
  rw [powE_eq]
  simp only [netC] at c1 c2 ⊢
  cases g1 : ((n.pow.length : Int) == n.nodes)
  case false =>
    rw [if_pos rfl]
    repeat (first
      | (refine Tri.seq fun K hK => ?_)
      | (refine Tri.region ?_; simp [upd, g1, bne, g1])
      | (refine Tri.draw (by kernel_rfl) (by decide +kernel) ?_; simp [upd, g1, bne, g1])
      | (refine Tri.cond_true ?_ ?_; (focus simp [upd, g1, bne, g1]; done))
      | (refine Tri.cond_false ?_ ?_; (focus simp [upd, g1, bne, g1]; done))
      | (refine Tri.skip ?_; simp only [thenS, blockS])
      | (refine Tri.block_seq ?_)
      | (refine Tri.block_region ?_)
      | (refine Tri.block_cond ?_)
      | (refine CallK.look 1 (c1 _) ⟨.refl _, .fn1 _ (.box _ _ _ _), trivial⟩ ?_ ?_; (focus (simp [upd, netC]; done)); simp [upd, g1, bne, g1])
      | (refine CallK.look 3 (c2 _) ⟨.refl _, .fn1 _ (.box _ _ _ _), trivial⟩ ?_ ?_; (focus (simp [upd]; done)); simp [upd, g1, bne, g1])
      | (refine Tri.exit ?_; simp [upd, g1, bne, g1]; first | (rename ∀ st, Tri _ _ _ st _ → _ => hK; first | (apply hK; clear hK) | (clear hK; rename ∀ st, Tri _ _ _ st _ → _ => hK; first | (apply hK; clear hK) | (clear hK; rename ∀ st, Tri _ _ _ st _ → _ => hK; first | (apply hK; clear hK) | (clear hK; rename ∀ st, Tri _ _ _ st _ → _ => hK; first | (apply hK; clear hK) | (clear hK; rename ∀ st, Tri _ _ _ st _ → _ => hK; first | (apply hK; clear hK) | (clear hK; rename ∀ st, Tri _ _ _ st _ → _ => hK; apply hK; clear hK)))))) | skip)
      | (intro β)
      | (rename ∀ st, Tri _ _ _ st _ → _ => hK; apply hK; clear hK))
    refine Tri.ret ⟨_, rfl, ?_⟩
    simp [upd]
    exact Wk.refl _
  rw [if_neg (by simp)]
  cases g2 : n.pow.any (rowBad n.nodes)
  case true =>
    rw [if_pos rfl]
    rw [g2] at c1
    repeat (first
      | (refine Tri.seq fun K hK => ?_)
      | (refine Tri.region ?_; simp [upd, g1, bne, g1])
      | (refine Tri.draw (by kernel_rfl) (by decide +kernel) ?_; simp [upd, g1, bne, g1])
      | (refine Tri.cond_true ?_ ?_; (focus simp [upd, g1, bne, g1]; done))
      | (refine Tri.cond_false ?_ ?_; (focus simp [upd, g1, bne, g1]; done))
      | (refine Tri.skip ?_; simp only [thenS, blockS])
      | (refine Tri.block_seq ?_)
      | (refine Tri.block_region ?_)
      | (refine Tri.block_cond ?_)
      | (refine CallK.look 1 (c1 _) ⟨.refl _, .fn1 _ (.box _ _ _ _), trivial⟩ ?_ ?_; (focus (simp [upd, netC]; done)); simp [upd, g1, bne, g1])
      | (refine CallK.look 3 (c2 _) ⟨.refl _, .fn1 _ (.box _ _ _ _), trivial⟩ ?_ ?_; (focus (simp [upd]; done)); simp [upd, g1, bne, g1])
      | (refine Tri.exit ?_; simp [upd, g1, bne, g1]; first | (rename ∀ st, Tri _ _ _ st _ → _ => hK; first | (apply hK; clear hK) | (clear hK; rename ∀ st, Tri _ _ _ st _ → _ => hK; first | (apply hK; clear hK) | (clear hK; rename ∀ st, Tri _ _ _ st _ → _ => hK; first | (apply hK; clear hK) | (clear hK; rename ∀ st, Tri _ _ _ st _ → _ => hK; first | (apply hK; clear hK) | (clear hK; rename ∀ st, Tri _ _ _ st _ → _ => hK; first | (apply hK; clear hK) | (clear hK; rename ∀ st, Tri _ _ _ st _ → _ => hK; apply hK; clear hK)))))) | skip)
      | (intro β)
      | (rename ∀ st, Tri _ _ _ st _ → _ => hK; apply hK; clear hK))
    refine Tri.ret ⟨_, rfl, ?_⟩
    simp [upd]
    exact Wk.refl _
  rw [if_neg (by simp)]
  rw [g2] at c1
  cases g3 : n.pow.any rowPow
  case true =>
    rw [if_pos rfl]
    rw [g3] at c2
    repeat (first
      | (refine Tri.seq fun K hK => ?_)
      | (refine Tri.region ?_; simp [upd, g1, bne, g1])
      | (refine Tri.draw (by kernel_rfl) (by decide +kernel) ?_; simp [upd, g1, bne, g1])
      | (refine Tri.cond_true ?_ ?_; (focus simp [upd, g1, bne, g1]; done))
      | (refine Tri.cond_false ?_ ?_; (focus simp [upd, g1, bne, g1]; done))
      | (refine Tri.skip ?_; simp only [thenS, blockS])
      | (refine Tri.block_seq ?_)
      | (refine Tri.block_region ?_)
      | (refine Tri.block_cond ?_)
      | (refine CallK.look 1 (c1 _) ⟨.refl _, .fn1 _ (.box _ _ _ _), trivial⟩ ?_ ?_; (focus (simp [upd, netC]; done)); simp [upd, g1, bne, g1])
      | (refine CallK.look 3 (c2 _) ⟨.refl _, .fn1 _ (.box _ _ _ _), trivial⟩ ?_ ?_; (focus (simp [upd]; done)); simp [upd, g1, bne, g1])
      | (refine Tri.exit ?_; simp [upd, g1, bne, g1]; first | (rename ∀ st, Tri _ _ _ st _ → _ => hK; first | (apply hK; clear hK) | (clear hK; rename ∀ st, Tri _ _ _ st _ → _ => hK; first | (apply hK; clear hK) | (clear hK; rename ∀ st, Tri _ _ _ st _ → _ => hK; first | (apply hK; clear hK) | (clear hK; rename ∀ st, Tri _ _ _ st _ → _ => hK; first | (apply hK; clear hK) | (clear hK; rename ∀ st, Tri _ _ _ st _ → _ => hK; first | (apply hK; clear hK) | (clear hK; rename ∀ st, Tri _ _ _ st _ → _ => hK; apply hK; clear hK)))))) | skip)
      | (intro β)
      | (rename ∀ st, Tri _ _ _ st _ → _ => hK; apply hK; clear hK))
    refine Tri.ret ⟨_, rfl, ?_⟩
    simp [upd]
    exact Wk.refl _
  rw [if_neg (by simp)]
  rw [g3] at c2
  repeat (first
    | (refine Tri.seq fun K hK => ?_)
    | (refine Tri.region ?_; simp [upd, g1, bne, g1])
    | (refine Tri.draw (by kernel_rfl) (by decide +kernel) ?_; simp [upd, g1, bne, g1])
    | (refine Tri.cond_true ?_ ?_; (focus simp [upd, g1, bne, g1]; done))
    | (refine Tri.cond_false ?_ ?_; (focus simp [upd, g1, bne, g1]; done))
    | (refine Tri.skip ?_; simp only [thenS, blockS])
    | (refine Tri.block_seq ?_)
    | (refine Tri.block_region ?_)
    | (refine Tri.block_cond ?_)
    | (refine CallK.look 1 (c1 _) ⟨.refl _, .fn1 _ (.box _ _ _ _), trivial⟩ ?_ ?_; (focus (simp [upd, netC]; done)); simp [upd, g1, bne, g1])
    | (refine CallK.look 3 (c2 _) ⟨.refl _, .fn1 _ (.box _ _ _ _), trivial⟩ ?_ ?_; (focus (simp [upd]; done)); simp [upd, g1, bne, g1])
    | (refine Tri.exit ?_; simp [upd, g1, bne, g1]; first | (rename ∀ st, Tri _ _ _ st _ → _ => hK; first | (apply hK; clear hK) | (clear hK; rename ∀ st, Tri _ _ _ st _ → _ => hK; first | (apply hK; clear hK) | (clear hK; rename ∀ st, Tri _ _ _ st _ → _ => hK; first | (apply hK; clear hK) | (clear hK; rename ∀ st, Tri _ _ _ st _ → _ => hK; first | (apply hK; clear hK) | (clear hK; rename ∀ st, Tri _ _ _ st _ → _ => hK; first | (apply hK; clear hK) | (clear hK; rename ∀ st, Tri _ _ _ st _ → _ => hK; apply hK; clear hK)))))) | skip)
    | (intro β)
    | (rename ∀ st, Tri _ _ _ st _ → _ => hK; apply hK; clear hK))
  refine Tri.ret ⟨_, rfl, ?_⟩
  simp [upd]
  exact Wk.refl _
def ltL (a b : Lnk) : Bool := decide (orI [cmpI a.frm b.frm, cmpI a.to b.to] < 0)
theorem compareL_does (a b : Lnk) : Does Try.prog 98 [.agg (lnkC a), .agg (lnkC b)] (.c (.int .i64 (orI [cmpI a.frm b.frm, cmpI a.to b.to]))) := by
  refine Does.of_body Try.func98 rfl (by kernel_rfl) rfl rfl (by simp) ?_
  intro E
  have hor := or_does [cmpI a.frm b.frm, cmpI a.to b.to] false (by simp)
  simp only [List.map] at hor
  repeat (first
    | (refine Tri.seq fun K hK => ?_)
    | (refine Tri.region ?_; simp [upd])
    | (refine Tri.draw (by kernel_rfl) (by decide +kernel) ?_; simp [upd])
    | (refine Tri.draw2 [] [0, 1, 2, 3, 4, 5, 6, 7, 8, 9, 10, 11, 12] [] [] (by kernel_rfl) (by kernel_rfl) (by decide) (by rfl) (by decide +kernel) ?_; simp [upd])
    | (refine Tri.cond_true ?_ ?_; (focus simp [upd]; done))
    | (refine Tri.cond_false ?_ ?_; (focus simp [upd]; done))
    | (refine Tri.skip ?_; simp only [thenS, blockS])
    | (refine Tri.block_seq ?_)
    | (refine Tri.block_region ?_)
    | (refine Tri.block_cond ?_)
    | ((with_reducible refine CallK.pure (compare_does _ _) (Wks.refl _) ?_); simp [upd])
    | ((with_reducible refine CallK.pure (hor) (Wks.refl _) ?_); simp [upd])
    | (refine Tri.exit ?_; simp [upd]; first | (rename ∀ st, Tri _ _ _ st _ → _ => hK; first | (apply hK; clear hK) | (clear hK; rename ∀ st, Tri _ _ _ st _ → _ => hK; first | (apply hK; clear hK) | (clear hK; rename ∀ st, Tri _ _ _ st _ → _ => hK; first | (apply hK; clear hK) | (clear hK; rename ∀ st, Tri _ _ _ st _ → _ => hK; first | (apply hK; clear hK) | (clear hK; rename ∀ st, Tri _ _ _ st _ → _ => hK; first | (apply hK; clear hK) | (clear hK; rename ∀ st, Tri _ _ _ st _ → _ => hK; apply hK; clear hK)))))) | skip)
    | (intro β)
    | (rename ∀ st, Tri _ _ _ st _ → _ => hK; apply hK; clear hK))
  refine Tri.ret ⟨_, rfl, ?_⟩
  simp [upd]
  exact Wk.refl _
theorem nodeL_does (x : Int) (b : Nat) (n : Net) : DoesB Try.prog 97 [.c (.int .i64 x), .c (.box 100 b 0)] [(100, b, netC n)] [] (fun _ => (.c (.bool (belowB x n.nodes)), [(100, b, netC n)], [])) := by
  refine DoesB.of_body Try.func97 rfl (by kernel_rfl) rfl rfl (by simp) (fun _ => rfl) fun E => ?_
  unfold netC
  by_cases h1 : 0 ≤ x
  · by_cases h2 : x < n.nodes
    · rw [show belowB x n.nodes = true by simp [belowB, h1, h2]]
      repeat (first
        | (refine Tri.seq fun K hK => ?_)
        | (refine Tri.region ?_; simp [upd, h1, h2])
        | (refine Tri.draw (by kernel_rfl) (by decide +kernel) ?_; simp [upd, h1, h2])
        | (refine Tri.cond_true ?_ ?_; (focus simp [upd, h1, h2]; done))
        | (refine Tri.cond_false ?_ ?_; (focus simp [upd, h1, h2]; done))
        | (refine Tri.skip ?_; simp only [thenS, blockS])
        | (refine Tri.block_seq ?_)
        | (refine Tri.block_region ?_)
        | (refine Tri.block_cond ?_)
        | (refine Tri.exit ?_; simp [upd, h1, h2]; first | (rename ∀ st, Tri _ _ _ st _ → _ => hK; first | (apply hK; clear hK) | (clear hK; rename ∀ st, Tri _ _ _ st _ → _ => hK; first | (apply hK; clear hK) | (clear hK; rename ∀ st, Tri _ _ _ st _ → _ => hK; first | (apply hK; clear hK) | (clear hK; rename ∀ st, Tri _ _ _ st _ → _ => hK; first | (apply hK; clear hK) | (clear hK; rename ∀ st, Tri _ _ _ st _ → _ => hK; first | (apply hK; clear hK) | (clear hK; rename ∀ st, Tri _ _ _ st _ → _ => hK; apply hK; clear hK)))))) | skip)
        | (intro β)
        | (rename ∀ st, Tri _ _ _ st _ → _ => hK; apply hK; clear hK))
      refine Tri.ret ⟨_, 0, [], rfl, ?_, ?_, trivial, by simp⟩
      · simp [upd]
        exact Wk.refl _
      · simp [upd]
    · rw [show belowB x n.nodes = false by simp [belowB, h1, h2]]
      repeat (first
        | (refine Tri.seq fun K hK => ?_)
        | (refine Tri.region ?_; simp [upd, h1, h2])
        | (refine Tri.draw (by kernel_rfl) (by decide +kernel) ?_; simp [upd, h1, h2])
        | (refine Tri.cond_true ?_ ?_; (focus simp [upd, h1, h2]; done))
        | (refine Tri.cond_false ?_ ?_; (focus simp [upd, h1, h2]; done))
        | (refine Tri.skip ?_; simp only [thenS, blockS])
        | (refine Tri.block_seq ?_)
        | (refine Tri.block_region ?_)
        | (refine Tri.block_cond ?_)
        | (refine Tri.exit ?_; simp [upd, h1, h2]; first | (rename ∀ st, Tri _ _ _ st _ → _ => hK; first | (apply hK; clear hK) | (clear hK; rename ∀ st, Tri _ _ _ st _ → _ => hK; first | (apply hK; clear hK) | (clear hK; rename ∀ st, Tri _ _ _ st _ → _ => hK; first | (apply hK; clear hK) | (clear hK; rename ∀ st, Tri _ _ _ st _ → _ => hK; first | (apply hK; clear hK) | (clear hK; rename ∀ st, Tri _ _ _ st _ → _ => hK; first | (apply hK; clear hK) | (clear hK; rename ∀ st, Tri _ _ _ st _ → _ => hK; apply hK; clear hK)))))) | skip)
        | (intro β)
        | (rename ∀ st, Tri _ _ _ st _ → _ => hK; apply hK; clear hK))
      refine Tri.ret ⟨_, 0, [], rfl, ?_, ?_, trivial, by simp⟩
      · simp [upd]
        exact Wk.refl _
      · simp [upd]
  · rw [show belowB x n.nodes = false by simp [belowB, h1]]
    repeat (first
      | (refine Tri.seq fun K hK => ?_)
      | (refine Tri.region ?_; simp [upd, h1])
      | (refine Tri.draw (by kernel_rfl) (by decide +kernel) ?_; simp [upd, h1])
      | (refine Tri.cond_true ?_ ?_; (focus simp [upd, h1]; done))
      | (refine Tri.cond_false ?_ ?_; (focus simp [upd, h1]; done))
      | (refine Tri.skip ?_; simp only [thenS, blockS])
      | (refine Tri.block_seq ?_)
      | (refine Tri.block_region ?_)
      | (refine Tri.block_cond ?_)
      | (refine Tri.exit ?_; simp [upd, h1]; first | (rename ∀ st, Tri _ _ _ st _ → _ => hK; first | (apply hK; clear hK) | (clear hK; rename ∀ st, Tri _ _ _ st _ → _ => hK; first | (apply hK; clear hK) | (clear hK; rename ∀ st, Tri _ _ _ st _ → _ => hK; first | (apply hK; clear hK) | (clear hK; rename ∀ st, Tri _ _ _ st _ → _ => hK; first | (apply hK; clear hK) | (clear hK; rename ∀ st, Tri _ _ _ st _ → _ => hK; first | (apply hK; clear hK) | (clear hK; rename ∀ st, Tri _ _ _ st _ → _ => hK; apply hK; clear hK)))))) | skip)
      | (intro β)
      | (rename ∀ st, Tri _ _ _ st _ → _ => hK; apply hK; clear hK))
    refine Tri.ret ⟨_, 0, [], rfl, ?_, ?_, trivial, by simp⟩
    · simp [upd]
      exact Wk.refl _
    · simp [upd]
end Go.Proofs.Ytngbpmiikpjiaaa
end
section
open Go Go.Vm
namespace Go.Proofs.Ytngbpmiikpjiaaa
set_option maxRecDepth 100000
set_option maxHeartbeats 8000000
set_option linter.unusedSimpArgs false
attribute [-simp] isObj C.isO
attribute [local irreducible] Tri Does DoesB DoesR Rounds check fault flowsE arr slotsOf inB findI powE
def powAt (n : Net) (a b : Int) : Int := match n.pow[a.toNat]? with
  | some x => (x.2[b.toNat]?).getD 0
  | none => 0
def notUpL (p : Option Lnk) (l : Lnk) : Bool := match p with
  | none => false
  | some q => decide (0 ≤ orI [cmpI q.frm l.frm, cmpI q.to l.to])
def link1 (n : Net) (p : Option Lnk) (l : Lnk) (m : Int) : Int :=
  if belowB l.frm n.nodes = false then 2 else if belowB l.to n.nodes = false then 2 else if l.frm = l.to then 2 else if l.loss < 0 then 2 else if 7 < l.loss then 2
  else if notUpL p l = true then 5 else if m < 0 then 2 else if powAt n l.frm l.to < m then 2 else 0
theorem shape_of {n : Net} (h : powE n = 0) : (n.pow.length : Int) = n.nodes ∧ ∀ i (_ : i < n.pow.length), (n.pow[i].2.length : Int) = n.nodes := by
  rw [powE_eq] at h
  split at h; · cases h
  split at h; · cases h
  rename_i h1 h2
  refine ⟨by simpa using h1, fun i hi => ?_⟩
  have : rowBad n.nodes n.pow[i] = false := by
    cases hq : rowBad n.nodes n.pow[i]
    · rfl
    · exact absurd (List.any_eq_true.2 ⟨_, List.getElem_mem hi, hq⟩) h2
  simpa [rowBad] using this
theorem checkLink_does (n : Net) (i : Nat) (hil : i < n.links.length) (him : i < n.marg.length) (hp : powE n = 0) (hn : n.nodes ≤ 1000000) (hi9 : i < 1000000) :
    Does Try.prog 73 [.agg (netC n), .c (.int .i64 (i : Nat))] (.c (.int .i64 (link1 n (if i = 0 then none else n.links[i-1]?) n.links[i] n.marg[i]))) := by
  refine Does.of_body Try.func73 rfl (by kernel_rfl) rfl rfl (by simp) ?_
  intro E
  have hnd := fun x b => nodeL_does x b n
  obtain ⟨hs1, hs2⟩ := shape_of hp
  unfold link1
  have hcm : True := trivial
  generalize hl : n.links[i] = l
  simp only [netC, I1] at hnd ⊢
  cases g1 : belowB l.frm n.nodes
  case false =>
    rw [if_pos rfl]
    repeat (first
      | (refine Tri.seq fun K hK => ?_)
      | (refine Tri.region ?_; simp [upd, hil, him, hl, g1])
      | (refine Tri.draw (by kernel_rfl) (by decide +kernel) ?_; simp [upd, hil, him, hl, g1])
      | (refine Tri.draw2 [] [0, 1, 2, 3, 4, 5, 6, 7, 8, 9, 10, 11, 12, 13] [] [] (by kernel_rfl) (by kernel_rfl) (by decide) (by rfl) (by decide +kernel) ?_; simp [upd, hil, him, hl, g1])
      | (refine Tri.draw2 [] [0, 1, 2, 3, 4, 5, 6, 7, 8, 9, 10, 11, 12, 13, 14, 15, 16, 17, 18, 19, 20, 21, 22, 23, 24] [] [] (by kernel_rfl) (by kernel_rfl) (by decide) (by rfl) (by decide +kernel) ?_; simp [upd, hil, him, hl, g1])
      | (refine Tri.cond_true ?_ ?_; (focus simp [upd, hil, him, hl, g1]; done))
      | (refine Tri.cond_false ?_ ?_; (focus simp [upd, hil, him, hl, g1]; done))
      | (refine Tri.skip ?_; simp only [thenS, blockS])
      | (refine Tri.block_seq ?_)
      | (refine Tri.block_region ?_)
      | (refine Tri.block_cond ?_)
      | (refine CallK.look 2 (hnd _ _) ⟨.refl _, .box _ _ _ _, trivial⟩ ?_ ?_; (focus (simp [upd, netC]; done)); simp [upd, hil, him, hl, g1])
      | ((with_reducible refine CallK.pure (hcm) (Wks.refl _) ?_); simp [upd, hil, him, hl, g1])
      | (refine Tri.exit ?_; simp [upd, hil, him, hl, g1]; first | (rename ∀ st, Tri _ _ _ st _ → _ => hK; first | (apply hK; clear hK) | (clear hK; rename ∀ st, Tri _ _ _ st _ → _ => hK; first | (apply hK; clear hK) | (clear hK; rename ∀ st, Tri _ _ _ st _ → _ => hK; first | (apply hK; clear hK) | (clear hK; rename ∀ st, Tri _ _ _ st _ → _ => hK; first | (apply hK; clear hK) | (clear hK; rename ∀ st, Tri _ _ _ st _ → _ => hK; first | (apply hK; clear hK) | (clear hK; rename ∀ st, Tri _ _ _ st _ → _ => hK; apply hK; clear hK)))))) | skip)
      | (intro β)
      | (rename ∀ st, Tri _ _ _ st _ → _ => hK; apply hK; clear hK))
    refine Tri.ret ⟨_, rfl, ?_⟩
    simp [upd]
    exact Wk.refl _
  rw [if_neg (by simp)]
  cases g2 : belowB l.to n.nodes
  case false =>
    rw [if_pos rfl]
    repeat (first
      | (refine Tri.seq fun K hK => ?_)
      | (refine Tri.region ?_; simp [upd, hil, him, hl, g1, g2])
      | (refine Tri.draw (by kernel_rfl) (by decide +kernel) ?_; simp [upd, hil, him, hl, g1, g2])
      | (refine Tri.draw2 [] [0, 1, 2, 3, 4, 5, 6, 7, 8, 9, 10, 11, 12, 13] [] [] (by kernel_rfl) (by kernel_rfl) (by decide) (by rfl) (by decide +kernel) ?_; simp [upd, hil, him, hl, g1, g2])
      | (refine Tri.draw2 [] [0, 1, 2, 3, 4, 5, 6, 7, 8, 9, 10, 11, 12, 13, 14, 15, 16, 17, 18, 19, 20, 21, 22, 23, 24] [] [] (by kernel_rfl) (by kernel_rfl) (by decide) (by rfl) (by decide +kernel) ?_; simp [upd, hil, him, hl, g1, g2])
      | (refine Tri.cond_true ?_ ?_; (focus simp [upd, hil, him, hl, g1, g2]; done))
      | (refine Tri.cond_false ?_ ?_; (focus simp [upd, hil, him, hl, g1, g2]; done))
      | (refine Tri.skip ?_; simp only [thenS, blockS])
      | (refine Tri.block_seq ?_)
      | (refine Tri.block_region ?_)
      | (refine Tri.block_cond ?_)
      | (refine CallK.look 2 (hnd _ _) ⟨.refl _, .box _ _ _ _, trivial⟩ ?_ ?_; (focus (simp [upd, netC]; done)); simp [upd, hil, him, hl, g1, g2])
      | ((with_reducible refine CallK.pure (hcm) (Wks.refl _) ?_); simp [upd, hil, him, hl, g1, g2])
      | (refine Tri.exit ?_; simp [upd, hil, him, hl, g1, g2]; first | (rename ∀ st, Tri _ _ _ st _ → _ => hK; first | (apply hK; clear hK) | (clear hK; rename ∀ st, Tri _ _ _ st _ → _ => hK; first | (apply hK; clear hK) | (clear hK; rename ∀ st, Tri _ _ _ st _ → _ => hK; first | (apply hK; clear hK) | (clear hK; rename ∀ st, Tri _ _ _ st _ → _ => hK; first | (apply hK; clear hK) | (clear hK; rename ∀ st, Tri _ _ _ st _ → _ => hK; first | (apply hK; clear hK) | (clear hK; rename ∀ st, Tri _ _ _ st _ → _ => hK; apply hK; clear hK)))))) | skip)
      | (intro β)
      | (rename ∀ st, Tri _ _ _ st _ → _ => hK; apply hK; clear hK))
    refine Tri.ret ⟨_, rfl, ?_⟩
    simp [upd]
    exact Wk.refl _
  rw [if_neg (by simp)]
  cases g3 : (l.frm == l.to)
  case true =>
    rw [if_pos (by simpa using g3)]
    repeat (first
      | (refine Tri.seq fun K hK => ?_)
      | (refine Tri.region ?_; simp [upd, hil, him, hl, g1, g2, g3])
      | (refine Tri.draw (by kernel_rfl) (by decide +kernel) ?_; simp [upd, hil, him, hl, g1, g2, g3])
      | (refine Tri.draw2 [] [0, 1, 2, 3, 4, 5, 6, 7, 8, 9, 10, 11, 12, 13] [] [] (by kernel_rfl) (by kernel_rfl) (by decide) (by rfl) (by decide +kernel) ?_; simp [upd, hil, him, hl, g1, g2, g3])
      | (refine Tri.draw2 [] [0, 1, 2, 3, 4, 5, 6, 7, 8, 9, 10, 11, 12, 13, 14, 15, 16, 17, 18, 19, 20, 21, 22, 23, 24] [] [] (by kernel_rfl) (by kernel_rfl) (by decide) (by rfl) (by decide +kernel) ?_; simp [upd, hil, him, hl, g1, g2, g3])
      | (refine Tri.cond_true ?_ ?_; (focus simp [upd, hil, him, hl, g1, g2, g3]; done))
      | (refine Tri.cond_false ?_ ?_; (focus simp [upd, hil, him, hl, g1, g2, g3]; done))
      | (refine Tri.skip ?_; simp only [thenS, blockS])
      | (refine Tri.block_seq ?_)
      | (refine Tri.block_region ?_)
      | (refine Tri.block_cond ?_)
      | (refine CallK.look 2 (hnd _ _) ⟨.refl _, .box _ _ _ _, trivial⟩ ?_ ?_; (focus (simp [upd, netC]; done)); simp [upd, hil, him, hl, g1, g2, g3])
      | ((with_reducible refine CallK.pure (hcm) (Wks.refl _) ?_); simp [upd, hil, him, hl, g1, g2, g3])
      | (refine Tri.exit ?_; simp [upd, hil, him, hl, g1, g2, g3]; first | (rename ∀ st, Tri _ _ _ st _ → _ => hK; first | (apply hK; clear hK) | (clear hK; rename ∀ st, Tri _ _ _ st _ → _ => hK; first | (apply hK; clear hK) | (clear hK; rename ∀ st, Tri _ _ _ st _ → _ => hK; first | (apply hK; clear hK) | (clear hK; rename ∀ st, Tri _ _ _ st _ → _ => hK; first | (apply hK; clear hK) | (clear hK; rename ∀ st, Tri _ _ _ st _ → _ => hK; first | (apply hK; clear hK) | (clear hK; rename ∀ st, Tri _ _ _ st _ → _ => hK; apply hK; clear hK)))))) | skip)
      | (intro β)
      | (rename ∀ st, Tri _ _ _ st _ → _ => hK; apply hK; clear hK))
    refine Tri.ret ⟨_, rfl, ?_⟩
    simp [upd]
    exact Wk.refl _
  rw [if_neg (by simpa using g3)]
  by_cases g4 : l.loss < 0
  · rw [if_pos g4]
    repeat (first
      | (refine Tri.seq fun K hK => ?_)
      | (refine Tri.region ?_; simp [upd, hil, him, hl, g1, g2, g3, g4])
      | (refine Tri.draw (by kernel_rfl) (by decide +kernel) ?_; simp [upd, hil, him, hl, g1, g2, g3, g4])
      | (refine Tri.draw2 [] [0, 1, 2, 3, 4, 5, 6, 7, 8, 9, 10, 11, 12, 13] [] [] (by kernel_rfl) (by kernel_rfl) (by decide) (by rfl) (by decide +kernel) ?_; simp [upd, hil, him, hl, g1, g2, g3, g4])
      | (refine Tri.draw2 [] [0, 1, 2, 3, 4, 5, 6, 7, 8, 9, 10, 11, 12, 13, 14, 15, 16, 17, 18, 19, 20, 21, 22, 23, 24] [] [] (by kernel_rfl) (by kernel_rfl) (by decide) (by rfl) (by decide +kernel) ?_; simp [upd, hil, him, hl, g1, g2, g3, g4])
      | (refine Tri.cond_true ?_ ?_; (focus simp [upd, hil, him, hl, g1, g2, g3, g4]; done))
      | (refine Tri.cond_false ?_ ?_; (focus simp [upd, hil, him, hl, g1, g2, g3, g4]; done))
      | (refine Tri.skip ?_; simp only [thenS, blockS])
      | (refine Tri.block_seq ?_)
      | (refine Tri.block_region ?_)
      | (refine Tri.block_cond ?_)
      | (refine CallK.look 2 (hnd _ _) ⟨.refl _, .box _ _ _ _, trivial⟩ ?_ ?_; (focus (simp [upd, netC]; done)); simp [upd, hil, him, hl, g1, g2, g3, g4])
      | ((with_reducible refine CallK.pure (hcm) (Wks.refl _) ?_); simp [upd, hil, him, hl, g1, g2, g3, g4])
      | (refine Tri.exit ?_; simp [upd, hil, him, hl, g1, g2, g3, g4]; first | (rename ∀ st, Tri _ _ _ st _ → _ => hK; first | (apply hK; clear hK) | (clear hK; rename ∀ st, Tri _ _ _ st _ → _ => hK; first | (apply hK; clear hK) | (clear hK; rename ∀ st, Tri _ _ _ st _ → _ => hK; first | (apply hK; clear hK) | (clear hK; rename ∀ st, Tri _ _ _ st _ → _ => hK; first | (apply hK; clear hK) | (clear hK; rename ∀ st, Tri _ _ _ st _ → _ => hK; first | (apply hK; clear hK) | (clear hK; rename ∀ st, Tri _ _ _ st _ → _ => hK; apply hK; clear hK)))))) | skip)
      | (intro β)
      | (rename ∀ st, Tri _ _ _ st _ → _ => hK; apply hK; clear hK))
    refine Tri.ret ⟨_, rfl, ?_⟩
    simp [upd]
    exact Wk.refl _
  rw [if_neg g4]
  by_cases g5 : 7 < l.loss
  · rw [if_pos g5]
    repeat (first
      | (refine Tri.seq fun K hK => ?_)
      | (refine Tri.region ?_; simp [upd, hil, him, hl, g1, g2, g3, g4, g5])
      | (refine Tri.draw (by kernel_rfl) (by decide +kernel) ?_; simp [upd, hil, him, hl, g1, g2, g3, g4, g5])
      | (refine Tri.draw2 [] [0, 1, 2, 3, 4, 5, 6, 7, 8, 9, 10, 11, 12, 13] [] [] (by kernel_rfl) (by kernel_rfl) (by decide) (by rfl) (by decide +kernel) ?_; simp [upd, hil, him, hl, g1, g2, g3, g4, g5])
      | (refine Tri.draw2 [] [0, 1, 2, 3, 4, 5, 6, 7, 8, 9, 10, 11, 12, 13, 14, 15, 16, 17, 18, 19, 20, 21, 22, 23, 24] [] [] (by kernel_rfl) (by kernel_rfl) (by decide) (by rfl) (by decide +kernel) ?_; simp [upd, hil, him, hl, g1, g2, g3, g4, g5])
      | (refine Tri.cond_true ?_ ?_; (focus simp [upd, hil, him, hl, g1, g2, g3, g4, g5]; done))
      | (refine Tri.cond_false ?_ ?_; (focus simp [upd, hil, him, hl, g1, g2, g3, g4, g5]; done))
      | (refine Tri.skip ?_; simp only [thenS, blockS])
      | (refine Tri.block_seq ?_)
      | (refine Tri.block_region ?_)
      | (refine Tri.block_cond ?_)
      | (refine CallK.look 2 (hnd _ _) ⟨.refl _, .box _ _ _ _, trivial⟩ ?_ ?_; (focus (simp [upd, netC]; done)); simp [upd, hil, him, hl, g1, g2, g3, g4, g5])
      | ((with_reducible refine CallK.pure (hcm) (Wks.refl _) ?_); simp [upd, hil, him, hl, g1, g2, g3, g4, g5])
      | (refine Tri.exit ?_; simp [upd, hil, him, hl, g1, g2, g3, g4, g5]; first | (rename ∀ st, Tri _ _ _ st _ → _ => hK; first | (apply hK; clear hK) | (clear hK; rename ∀ st, Tri _ _ _ st _ → _ => hK; first | (apply hK; clear hK) | (clear hK; rename ∀ st, Tri _ _ _ st _ → _ => hK; first | (apply hK; clear hK) | (clear hK; rename ∀ st, Tri _ _ _ st _ → _ => hK; first | (apply hK; clear hK) | (clear hK; rename ∀ st, Tri _ _ _ st _ → _ => hK; first | (apply hK; clear hK) | (clear hK; rename ∀ st, Tri _ _ _ st _ → _ => hK; apply hK; clear hK)))))) | skip)
      | (intro β)
      | (rename ∀ st, Tri _ _ _ st _ → _ => hK; apply hK; clear hK))
    refine Tri.ret ⟨_, rfl, ?_⟩
    simp [upd]
    exact Wk.refl _
  rw [if_neg g5]
  have b1 : 0 ≤ l.frm ∧ l.frm < n.nodes := by simpa [belowB] using g1
  have b2 : 0 ≤ l.to ∧ l.to < n.nodes := by simpa [belowB] using g2
  obtain ⟨a, ha⟩ : ∃ a : Nat, l.frm = a := ⟨l.frm.toNat, by omega⟩
  obtain ⟨b, hb⟩ : ∃ b : Nat, l.to = b := ⟨l.to.toNat, by omega⟩
  have hap : a < n.pow.length := by omega
  have hbp : b < n.pow[a].2.length := by have := hs2 a hap; omega
  have hpa : powAt n l.frm l.to = n.pow[a].2[b] := by
    rw [powAt, ha, hb]
    simp [hap, hbp]
  rw [hpa]
  rw [ha] at g1
  rw [hb] at g2
  rw [ha, hb] at g3
  clear hnd
  have hnd := fun x b => nodeL_does x b n
  simp only [netC, I1] at hnd
  cases i with
  | zero =>
    simp only [if_true, notUpL, Bool.false_eq_true, if_false]
    by_cases k1 : n.marg[0] < 0
    · rw [if_pos k1]
      repeat (first
        | (refine Tri.seq fun K hK => ?_)
        | (refine Tri.region ?_; simp [upd, hil, him, hl, ha, hb, g1, g2, g3, g4, g5, k1, I1])
        | (refine Tri.draw (by kernel_rfl) (by decide +kernel) ?_; simp [upd, hil, him, hl, ha, hb, g1, g2, g3, g4, g5, k1, I1])
        | (refine Tri.draw2 [] [0, 1, 2, 3, 4, 5, 6, 7, 8, 9, 10, 11, 12, 13] [] [] (by kernel_rfl) (by kernel_rfl) (by decide) (by rfl) (by decide +kernel) ?_; simp [upd, hil, him, hl, ha, hb, g1, g2, g3, g4, g5, k1, I1])
        | (refine Tri.draw2 [] [0, 1, 2, 3, 4, 5, 6, 7, 8, 9, 10, 11, 12, 13, 14, 15, 16, 17, 18, 19, 20, 21, 22, 23, 24] [] [] (by kernel_rfl) (by kernel_rfl) (by decide) (by rfl) (by decide +kernel) ?_; simp [upd, hil, him, hl, ha, hb, g1, g2, g3, g4, g5, k1, I1])
        | (refine Tri.cond_true ?_ ?_; (focus simp [upd, hil, him, hl, ha, hb, g1, g2, g3, g4, g5, k1, I1]; done))
        | (refine Tri.cond_false ?_ ?_; (focus simp [upd, hil, him, hl, ha, hb, g1, g2, g3, g4, g5, k1, I1]; done))
        | (refine Tri.skip ?_; simp only [thenS, blockS])
        | (refine Tri.block_seq ?_)
        | (refine Tri.block_region ?_)
        | (refine Tri.block_cond ?_)
        | (refine CallK.look 2 (hnd _ _) ⟨.refl _, .box _ _ _ _, trivial⟩ ?_ ?_; (focus (simp [upd, netC]; done)); simp [upd, hil, him, hl, ha, hb, g1, g2, g3, g4, g5, k1, I1])
        | ((with_reducible refine CallK.pure (hcm) (Wks.refl _) ?_); simp [upd, hil, him, hl, ha, hb, g1, g2, g3, g4, g5, k1, I1])
        | (refine Tri.exit ?_; simp [upd, hil, him, hl, ha, hb, g1, g2, g3, g4, g5, k1, I1]; first | (rename ∀ st, Tri _ _ _ st _ → _ => hK; first | (apply hK; clear hK) | (clear hK; rename ∀ st, Tri _ _ _ st _ → _ => hK; first | (apply hK; clear hK) | (clear hK; rename ∀ st, Tri _ _ _ st _ → _ => hK; first | (apply hK; clear hK) | (clear hK; rename ∀ st, Tri _ _ _ st _ → _ => hK; first | (apply hK; clear hK) | (clear hK; rename ∀ st, Tri _ _ _ st _ → _ => hK; first | (apply hK; clear hK) | (clear hK; rename ∀ st, Tri _ _ _ st _ → _ => hK; apply hK; clear hK)))))) | skip)
        | (intro β)
        | (rename ∀ st, Tri _ _ _ st _ → _ => hK; apply hK; clear hK))
      refine Tri.ret ⟨_, rfl, ?_⟩
      simp [upd]
      exact Wk.refl _
    rw [if_neg k1]
    by_cases k2 : n.pow[a].2[b] < n.marg[0]
    · rw [if_pos k2]
      repeat (first
        | (refine Tri.seq fun K hK => ?_)
        | (refine Tri.region ?_; simp [upd, hil, him, hl, ha, hb, g1, g2, g3, g4, g5, k1, k2, hap, hbp, rowC, I1])
        | (refine Tri.draw (by kernel_rfl) (by decide +kernel) ?_; simp [upd, hil, him, hl, ha, hb, g1, g2, g3, g4, g5, k1, k2, hap, hbp, rowC, I1])
        | (refine Tri.draw2 [] [0, 1, 2, 3, 4, 5, 6, 7, 8, 9, 10, 11, 12, 13] [] [] (by kernel_rfl) (by kernel_rfl) (by decide) (by rfl) (by decide +kernel) ?_; simp [upd, hil, him, hl, ha, hb, g1, g2, g3, g4, g5, k1, k2, hap, hbp, rowC, I1])
        | (refine Tri.draw2 [] [0, 1, 2, 3, 4, 5, 6, 7, 8, 9, 10, 11, 12, 13, 14, 15, 16, 17, 18, 19, 20, 21, 22, 23, 24] [] [] (by kernel_rfl) (by kernel_rfl) (by decide) (by rfl) (by decide +kernel) ?_; simp [upd, hil, him, hl, ha, hb, g1, g2, g3, g4, g5, k1, k2, hap, hbp, rowC, I1])
        | (refine Tri.cond_true ?_ ?_; (focus simp [upd, hil, him, hl, ha, hb, g1, g2, g3, g4, g5, k1, k2, hap, hbp, rowC, I1]; done))
        | (refine Tri.cond_false ?_ ?_; (focus simp [upd, hil, him, hl, ha, hb, g1, g2, g3, g4, g5, k1, k2, hap, hbp, rowC, I1]; done))
        | (refine Tri.skip ?_; simp only [thenS, blockS])
        | (refine Tri.block_seq ?_)
        | (refine Tri.block_region ?_)
        | (refine Tri.block_cond ?_)
        | (refine CallK.look 2 (hnd _ _) ⟨.refl _, .box _ _ _ _, trivial⟩ ?_ ?_; (focus (simp [upd, netC]; done)); simp [upd, hil, him, hl, ha, hb, g1, g2, g3, g4, g5, k1, k2, hap, hbp, rowC, I1])
        | ((with_reducible refine CallK.pure (hcm) (Wks.refl _) ?_); simp [upd, hil, him, hl, ha, hb, g1, g2, g3, g4, g5, k1, k2, hap, hbp, rowC, I1])
        | (refine Tri.exit ?_; simp [upd, hil, him, hl, ha, hb, g1, g2, g3, g4, g5, k1, k2, hap, hbp, rowC, I1]; first | (rename ∀ st, Tri _ _ _ st _ → _ => hK; first | (apply hK; clear hK) | (clear hK; rename ∀ st, Tri _ _ _ st _ → _ => hK; first | (apply hK; clear hK) | (clear hK; rename ∀ st, Tri _ _ _ st _ → _ => hK; first | (apply hK; clear hK) | (clear hK; rename ∀ st, Tri _ _ _ st _ → _ => hK; first | (apply hK; clear hK) | (clear hK; rename ∀ st, Tri _ _ _ st _ → _ => hK; first | (apply hK; clear hK) | (clear hK; rename ∀ st, Tri _ _ _ st _ → _ => hK; apply hK; clear hK)))))) | skip)
        | (intro β)
        | (rename ∀ st, Tri _ _ _ st _ → _ => hK; apply hK; clear hK))
      refine Tri.ret ⟨_, rfl, ?_⟩
      simp [upd]
      exact Wk.refl _
    rw [if_neg k2]
    repeat (first
      | (refine Tri.seq fun K hK => ?_)
      | (refine Tri.region ?_; simp [upd, hil, him, hl, ha, hb, g1, g2, g3, g4, g5, k1, k2, hap, hbp, rowC, I1])
      | (refine Tri.draw (by kernel_rfl) (by decide +kernel) ?_; simp [upd, hil, him, hl, ha, hb, g1, g2, g3, g4, g5, k1, k2, hap, hbp, rowC, I1])
      | (refine Tri.draw2 [] [0, 1, 2, 3, 4, 5, 6, 7, 8, 9, 10, 11, 12, 13] [] [] (by kernel_rfl) (by kernel_rfl) (by decide) (by rfl) (by decide +kernel) ?_; simp [upd, hil, him, hl, ha, hb, g1, g2, g3, g4, g5, k1, k2, hap, hbp, rowC, I1])
      | (refine Tri.draw2 [] [0, 1, 2, 3, 4, 5, 6, 7, 8, 9, 10, 11, 12, 13, 14, 15, 16, 17, 18, 19, 20, 21, 22, 23, 24] [] [] (by kernel_rfl) (by kernel_rfl) (by decide) (by rfl) (by decide +kernel) ?_; simp [upd, hil, him, hl, ha, hb, g1, g2, g3, g4, g5, k1, k2, hap, hbp, rowC, I1])
      | (refine Tri.cond_true ?_ ?_; (focus simp [upd, hil, him, hl, ha, hb, g1, g2, g3, g4, g5, k1, k2, hap, hbp, rowC, I1]; done))
      | (refine Tri.cond_false ?_ ?_; (focus simp [upd, hil, him, hl, ha, hb, g1, g2, g3, g4, g5, k1, k2, hap, hbp, rowC, I1]; done))
      | (refine Tri.skip ?_; simp only [thenS, blockS])
      | (refine Tri.block_seq ?_)
      | (refine Tri.block_region ?_)
      | (refine Tri.block_cond ?_)
      | (refine CallK.look 2 (hnd _ _) ⟨.refl _, .box _ _ _ _, trivial⟩ ?_ ?_; (focus (simp [upd, netC]; done)); simp [upd, hil, him, hl, ha, hb, g1, g2, g3, g4, g5, k1, k2, hap, hbp, rowC, I1])
      | ((with_reducible refine CallK.pure (hcm) (Wks.refl _) ?_); simp [upd, hil, him, hl, ha, hb, g1, g2, g3, g4, g5, k1, k2, hap, hbp, rowC, I1])
      | (refine Tri.exit ?_; simp [upd, hil, him, hl, ha, hb, g1, g2, g3, g4, g5, k1, k2, hap, hbp, rowC, I1]; first | (rename ∀ st, Tri _ _ _ st _ → _ => hK; first | (apply hK; clear hK) | (clear hK; rename ∀ st, Tri _ _ _ st _ → _ => hK; first | (apply hK; clear hK) | (clear hK; rename ∀ st, Tri _ _ _ st _ → _ => hK; first | (apply hK; clear hK) | (clear hK; rename ∀ st, Tri _ _ _ st _ → _ => hK; first | (apply hK; clear hK) | (clear hK; rename ∀ st, Tri _ _ _ st _ → _ => hK; first | (apply hK; clear hK) | (clear hK; rename ∀ st, Tri _ _ _ st _ → _ => hK; apply hK; clear hK)))))) | skip)
      | (intro β)
      | (rename ∀ st, Tri _ _ _ st _ → _ => hK; apply hK; clear hK))
    refine Tri.ret ⟨_, rfl, ?_⟩
    simp [upd]
    exact Wk.refl _
  | succ j =>
    have hj : j < n.links.length := by omega
    have hw : IntKind.i64.wrap (j : Int) = j := wrap_i64 (by omega) (by omega)
    have hp1 : (0 : Int) < (j : Int) + 1 := by omega
    have hp0 : (0 : Int) ≤ (j : Int) + 1 := by omega
    simp only [Nat.add_eq_zero_iff, Nat.one_ne_zero, and_false, if_false, Nat.add_sub_cancel, List.getElem?_eq_getElem hj, notUpL]
    clear hcm
    have hcm := compareL_does n.links[j] l
    simp only [lnkC] at hcm
    rw [ha, hb] at hcm ⊢
    by_cases k0 : 0 ≤ orI [cmpI n.links[j].frm a, cmpI n.links[j].to b]
    · rw [if_pos (by simpa using k0)]
      repeat (first
        | (refine Tri.seq fun K hK => ?_)
        | (refine Tri.region ?_; simp [upd, hil, him, hl, ha, hb, g1, g2, g3, g4, g5, hj, hw, hp1, hp0, k0])
        | (refine Tri.draw (by kernel_rfl) (by decide +kernel) ?_; simp [upd, hil, him, hl, ha, hb, g1, g2, g3, g4, g5, hj, hw, hp1, hp0, k0])
        | (refine Tri.draw2 [] [0, 1, 2, 3, 4, 5, 6, 7, 8, 9, 10, 11, 12, 13] [] [] (by kernel_rfl) (by kernel_rfl) (by decide) (by rfl) (by decide +kernel) ?_; simp [upd, hil, him, hl, ha, hb, g1, g2, g3, g4, g5, hj, hw, hp1, hp0, k0])
        | (refine Tri.draw2 [] [0, 1, 2, 3, 4, 5, 6, 7, 8, 9, 10, 11, 12, 13, 14, 15, 16, 17, 18, 19, 20, 21, 22, 23, 24] [] [] (by kernel_rfl) (by kernel_rfl) (by decide) (by rfl) (by decide +kernel) ?_; simp [upd, hil, him, hl, ha, hb, g1, g2, g3, g4, g5, hj, hw, hp1, hp0, k0])
        | (refine Tri.cond_true ?_ ?_; (focus simp [upd, hil, him, hl, ha, hb, g1, g2, g3, g4, g5, hj, hw, hp1, hp0, k0]; done))
        | (refine Tri.cond_false ?_ ?_; (focus simp [upd, hil, him, hl, ha, hb, g1, g2, g3, g4, g5, hj, hw, hp1, hp0, k0]; done))
        | (refine Tri.skip ?_; simp only [thenS, blockS])
        | (refine Tri.block_seq ?_)
        | (refine Tri.block_region ?_)
        | (refine Tri.block_cond ?_)
        | (refine CallK.look 2 (hnd _ _) ⟨.refl _, .box _ _ _ _, trivial⟩ ?_ ?_; (focus (simp [upd, netC]; done)); simp [upd, hil, him, hl, ha, hb, g1, g2, g3, g4, g5, hj, hw, hp1, hp0, k0])
        | ((with_reducible refine CallK.pure (hcm) (Wks.refl _) ?_); simp [upd, hil, him, hl, ha, hb, g1, g2, g3, g4, g5, hj, hw, hp1, hp0, k0])
        | (refine Tri.exit ?_; simp [upd, hil, him, hl, ha, hb, g1, g2, g3, g4, g5, hj, hw, hp1, hp0, k0]; first | (rename ∀ st, Tri _ _ _ st _ → _ => hK; first | (apply hK; clear hK) | (clear hK; rename ∀ st, Tri _ _ _ st _ → _ => hK; first | (apply hK; clear hK) | (clear hK; rename ∀ st, Tri _ _ _ st _ → _ => hK; first | (apply hK; clear hK) | (clear hK; rename ∀ st, Tri _ _ _ st _ → _ => hK; first | (apply hK; clear hK) | (clear hK; rename ∀ st, Tri _ _ _ st _ → _ => hK; first | (apply hK; clear hK) | (clear hK; rename ∀ st, Tri _ _ _ st _ → _ => hK; apply hK; clear hK)))))) | skip)
        | (intro β)
        | (rename ∀ st, Tri _ _ _ st _ → _ => hK; apply hK; clear hK))
      refine Tri.ret ⟨_, rfl, ?_⟩
      simp [upd]
      exact Wk.refl _
    rw [if_neg (by simpa using k0)]
    by_cases k1 : n.marg[j + 1] < 0
    · rw [if_pos k1]
      repeat (first
        | (refine Tri.seq fun K hK => ?_)
        | (refine Tri.region ?_; simp [upd, hil, him, hl, ha, hb, g1, g2, g3, g4, g5, hj, hw, hp1, hp0, k0, k1, I1])
        | (refine Tri.draw (by kernel_rfl) (by decide +kernel) ?_; simp [upd, hil, him, hl, ha, hb, g1, g2, g3, g4, g5, hj, hw, hp1, hp0, k0, k1, I1])
        | (refine Tri.draw2 [] [0, 1, 2, 3, 4, 5, 6, 7, 8, 9, 10, 11, 12, 13] [] [] (by kernel_rfl) (by kernel_rfl) (by decide) (by rfl) (by decide +kernel) ?_; simp [upd, hil, him, hl, ha, hb, g1, g2, g3, g4, g5, hj, hw, hp1, hp0, k0, k1, I1])
        | (refine Tri.draw2 [] [0, 1, 2, 3, 4, 5, 6, 7, 8, 9, 10, 11, 12, 13, 14, 15, 16, 17, 18, 19, 20, 21, 22, 23, 24] [] [] (by kernel_rfl) (by kernel_rfl) (by decide) (by rfl) (by decide +kernel) ?_; simp [upd, hil, him, hl, ha, hb, g1, g2, g3, g4, g5, hj, hw, hp1, hp0, k0, k1, I1])
        | (refine Tri.cond_true ?_ ?_; (focus simp [upd, hil, him, hl, ha, hb, g1, g2, g3, g4, g5, hj, hw, hp1, hp0, k0, k1, I1]; done))
        | (refine Tri.cond_false ?_ ?_; (focus simp [upd, hil, him, hl, ha, hb, g1, g2, g3, g4, g5, hj, hw, hp1, hp0, k0, k1, I1]; done))
        | (refine Tri.skip ?_; simp only [thenS, blockS])
        | (refine Tri.block_seq ?_)
        | (refine Tri.block_region ?_)
        | (refine Tri.block_cond ?_)
        | (refine CallK.look 2 (hnd _ _) ⟨.refl _, .box _ _ _ _, trivial⟩ ?_ ?_; (focus (simp [upd, netC]; done)); simp [upd, hil, him, hl, ha, hb, g1, g2, g3, g4, g5, hj, hw, hp1, hp0, k0, k1, I1])
        | ((with_reducible refine CallK.pure (hcm) (Wks.refl _) ?_); simp [upd, hil, him, hl, ha, hb, g1, g2, g3, g4, g5, hj, hw, hp1, hp0, k0, k1, I1])
        | (refine Tri.exit ?_; simp [upd, hil, him, hl, ha, hb, g1, g2, g3, g4, g5, hj, hw, hp1, hp0, k0, k1, I1]; first | (rename ∀ st, Tri _ _ _ st _ → _ => hK; first | (apply hK; clear hK) | (clear hK; rename ∀ st, Tri _ _ _ st _ → _ => hK; first | (apply hK; clear hK) | (clear hK; rename ∀ st, Tri _ _ _ st _ → _ => hK; first | (apply hK; clear hK) | (clear hK; rename ∀ st, Tri _ _ _ st _ → _ => hK; first | (apply hK; clear hK) | (clear hK; rename ∀ st, Tri _ _ _ st _ → _ => hK; first | (apply hK; clear hK) | (clear hK; rename ∀ st, Tri _ _ _ st _ → _ => hK; apply hK; clear hK)))))) | skip)
        | (intro β)
        | (rename ∀ st, Tri _ _ _ st _ → _ => hK; apply hK; clear hK))
      refine Tri.ret ⟨_, rfl, ?_⟩
      simp [upd]
      exact Wk.refl _
    rw [if_neg k1]
    by_cases k2 : n.pow[a].2[b] < n.marg[j + 1]
    · rw [if_pos k2]
      repeat (first
        | (refine Tri.seq fun K hK => ?_)
        | (refine Tri.region ?_; simp [upd, hil, him, hl, ha, hb, g1, g2, g3, g4, g5, hj, hw, hp1, hp0, k0, k1, k2, hap, hbp, rowC, I1])
        | (refine Tri.draw (by kernel_rfl) (by decide +kernel) ?_; simp [upd, hil, him, hl, ha, hb, g1, g2, g3, g4, g5, hj, hw, hp1, hp0, k0, k1, k2, hap, hbp, rowC, I1])
        | (refine Tri.draw2 [] [0, 1, 2, 3, 4, 5, 6, 7, 8, 9, 10, 11, 12, 13] [] [] (by kernel_rfl) (by kernel_rfl) (by decide) (by rfl) (by decide +kernel) ?_; simp [upd, hil, him, hl, ha, hb, g1, g2, g3, g4, g5, hj, hw, hp1, hp0, k0, k1, k2, hap, hbp, rowC, I1])
        | (refine Tri.draw2 [] [0, 1, 2, 3, 4, 5, 6, 7, 8, 9, 10, 11, 12, 13, 14, 15, 16, 17, 18, 19, 20, 21, 22, 23, 24] [] [] (by kernel_rfl) (by kernel_rfl) (by decide) (by rfl) (by decide +kernel) ?_; simp [upd, hil, him, hl, ha, hb, g1, g2, g3, g4, g5, hj, hw, hp1, hp0, k0, k1, k2, hap, hbp, rowC, I1])
        | (refine Tri.cond_true ?_ ?_; (focus simp [upd, hil, him, hl, ha, hb, g1, g2, g3, g4, g5, hj, hw, hp1, hp0, k0, k1, k2, hap, hbp, rowC, I1]; done))
        | (refine Tri.cond_false ?_ ?_; (focus simp [upd, hil, him, hl, ha, hb, g1, g2, g3, g4, g5, hj, hw, hp1, hp0, k0, k1, k2, hap, hbp, rowC, I1]; done))
        | (refine Tri.skip ?_; simp only [thenS, blockS])
        | (refine Tri.block_seq ?_)
        | (refine Tri.block_region ?_)
        | (refine Tri.block_cond ?_)
        | (refine CallK.look 2 (hnd _ _) ⟨.refl _, .box _ _ _ _, trivial⟩ ?_ ?_; (focus (simp [upd, netC]; done)); simp [upd, hil, him, hl, ha, hb, g1, g2, g3, g4, g5, hj, hw, hp1, hp0, k0, k1, k2, hap, hbp, rowC, I1])
        | ((with_reducible refine CallK.pure (hcm) (Wks.refl _) ?_); simp [upd, hil, him, hl, ha, hb, g1, g2, g3, g4, g5, hj, hw, hp1, hp0, k0, k1, k2, hap, hbp, rowC, I1])
        | (refine Tri.exit ?_; simp [upd, hil, him, hl, ha, hb, g1, g2, g3, g4, g5, hj, hw, hp1, hp0, k0, k1, k2, hap, hbp, rowC, I1]; first | (rename ∀ st, Tri _ _ _ st _ → _ => hK; first | (apply hK; clear hK) | (clear hK; rename ∀ st, Tri _ _ _ st _ → _ => hK; first | (apply hK; clear hK) | (clear hK; rename ∀ st, Tri _ _ _ st _ → _ => hK; first | (apply hK; clear hK) | (clear hK; rename ∀ st, Tri _ _ _ st _ → _ => hK; first | (apply hK; clear hK) | (clear hK; rename ∀ st, Tri _ _ _ st _ → _ => hK; first | (apply hK; clear hK) | (clear hK; rename ∀ st, Tri _ _ _ st _ → _ => hK; apply hK; clear hK)))))) | skip)
        | (intro β)
        | (rename ∀ st, Tri _ _ _ st _ → _ => hK; apply hK; clear hK))
      refine Tri.ret ⟨_, rfl, ?_⟩
      simp [upd]
      exact Wk.refl _
    rw [if_neg k2]
    repeat (first
      | (refine Tri.seq fun K hK => ?_)
      | (refine Tri.region ?_; simp [upd, hil, him, hl, ha, hb, g1, g2, g3, g4, g5, hj, hw, hp1, hp0, k0, k1, k2, hap, hbp, rowC, I1])
      | (refine Tri.draw (by kernel_rfl) (by decide +kernel) ?_; simp [upd, hil, him, hl, ha, hb, g1, g2, g3, g4, g5, hj, hw, hp1, hp0, k0, k1, k2, hap, hbp, rowC, I1])
      | (refine Tri.draw2 [] [0, 1, 2, 3, 4, 5, 6, 7, 8, 9, 10, 11, 12, 13] [] [] (by kernel_rfl) (by kernel_rfl) (by decide) (by rfl) (by decide +kernel) ?_; simp [upd, hil, him, hl, ha, hb, g1, g2, g3, g4, g5, hj, hw, hp1, hp0, k0, k1, k2, hap, hbp, rowC, I1])
      | (refine Tri.draw2 [] [0, 1, 2, 3, 4, 5, 6, 7, 8, 9, 10, 11, 12, 13, 14, 15, 16, 17, 18, 19, 20, 21, 22, 23, 24] [] [] (by kernel_rfl) (by kernel_rfl) (by decide) (by rfl) (by decide +kernel) ?_; simp [upd, hil, him, hl, ha, hb, g1, g2, g3, g4, g5, hj, hw, hp1, hp0, k0, k1, k2, hap, hbp, rowC, I1])
      | (refine Tri.cond_true ?_ ?_; (focus simp [upd, hil, him, hl, ha, hb, g1, g2, g3, g4, g5, hj, hw, hp1, hp0, k0, k1, k2, hap, hbp, rowC, I1]; done))
      | (refine Tri.cond_false ?_ ?_; (focus simp [upd, hil, him, hl, ha, hb, g1, g2, g3, g4, g5, hj, hw, hp1, hp0, k0, k1, k2, hap, hbp, rowC, I1]; done))
      | (refine Tri.skip ?_; simp only [thenS, blockS])
      | (refine Tri.block_seq ?_)
      | (refine Tri.block_region ?_)
      | (refine Tri.block_cond ?_)
      | (refine CallK.look 2 (hnd _ _) ⟨.refl _, .box _ _ _ _, trivial⟩ ?_ ?_; (focus (simp [upd, netC]; done)); simp [upd, hil, him, hl, ha, hb, g1, g2, g3, g4, g5, hj, hw, hp1, hp0, k0, k1, k2, hap, hbp, rowC, I1])
      | ((with_reducible refine CallK.pure (hcm) (Wks.refl _) ?_); simp [upd, hil, him, hl, ha, hb, g1, g2, g3, g4, g5, hj, hw, hp1, hp0, k0, k1, k2, hap, hbp, rowC, I1])
      | (refine Tri.exit ?_; simp [upd, hil, him, hl, ha, hb, g1, g2, g3, g4, g5, hj, hw, hp1, hp0, k0, k1, k2, hap, hbp, rowC, I1]; first | (rename ∀ st, Tri _ _ _ st _ → _ => hK; first | (apply hK; clear hK) | (clear hK; rename ∀ st, Tri _ _ _ st _ → _ => hK; first | (apply hK; clear hK) | (clear hK; rename ∀ st, Tri _ _ _ st _ → _ => hK; first | (apply hK; clear hK) | (clear hK; rename ∀ st, Tri _ _ _ st _ → _ => hK; first | (apply hK; clear hK) | (clear hK; rename ∀ st, Tri _ _ _ st _ → _ => hK; first | (apply hK; clear hK) | (clear hK; rename ∀ st, Tri _ _ _ st _ → _ => hK; apply hK; clear hK)))))) | skip)
      | (intro β)
      | (rename ∀ st, Tri _ _ _ st _ → _ => hK; apply hK; clear hK))
    refine Tri.ret ⟨_, rfl, ?_⟩
    simp [upd]
    exact Wk.refl _
end Go.Proofs.Ytngbpmiikpjiaaa
end
section
open Go Go.Vm
namespace Go.Proofs.Ytngbpmiikpjiaaa
set_option maxRecDepth 100000
set_option maxHeartbeats 8000000
set_option linter.unusedSimpArgs false
attribute [-simp] isObj C.isO
attribute [local irreducible] Tri Does DoesB DoesR Rounds check fault flowsE arr slotsOf inB findI powE link1
/-- The first link with a fault. -/
def linksGo (n : Net) : Option Lnk → List Lnk → List Int → Int
  | _, [], _ => 0
  | _, _ :: _, [] => 0
  | p, l :: ls, m :: ms => if link1 n p l m = 0 then linksGo n (some l) ls ms else link1 n p l m
def netE (n : Net) : Int :=
  if n.nodes < 2 then 2 else if 32 < n.nodes then 2 else if powE n = 0 then
    (if n.noise < 0 then 2 else if 68719476736 < n.noise then 2 else if n.thr < 1000 then 2 else if 100000 < n.thr then 2
     else if 128 < n.links.length then 8 else if n.marg.length = n.links.length then linksGo n none n.links n.marg else 11) else powE n
theorem checkNet_does (n : Net) (h : NetOk n) : Does Try.prog 49 [.agg (netC n)] (.c (.int .i64 (netE n))) := by
  refine Does.of_body Try.func49 rfl (by kernel_rfl) rfl rfl (by simp) ?_
  intro E
  have hp := checkPower_does n h
  unfold netE
  have hck : True := trivial
  have hml : (n.marg.map fun x => [C.int .i64 x]).length = n.marg.length := by simp
  simp only [netC, I1] at hp ⊢
  by_cases g1 : n.nodes < 2
  · rw [if_pos g1]
    repeat (first
      | (refine Tri.seq fun K hK => ?_)
      | (refine Tri.region ?_; simp [upd, bne, hml, g1])
      | (refine Tri.draw (by kernel_rfl) (by decide +kernel) ?_; simp [upd, bne, hml, g1])
      | (refine Tri.cond_true ?_ ?_; (focus simp [upd, bne, hml, g1]; done))
      | (refine Tri.cond_false ?_ ?_; (focus simp [upd, bne, hml, g1]; done))
      | (refine Tri.skip ?_; simp only [thenS, blockS])
      | (refine Tri.block_seq ?_)
      | (refine Tri.block_region ?_)
      | (refine Tri.block_cond ?_)
      | ((with_reducible refine CallK.pure (hp) (Wks.refl _) ?_); simp [upd, bne, hml, g1])
      | ((with_reducible refine CallK.pure (hck) (Wks.refl _) ?_); simp [upd, bne, hml, g1])
      | (refine Tri.exit ?_; simp [upd, bne, hml, g1]; first | (rename ∀ st, Tri _ _ _ st _ → _ => hK; first | (apply hK; clear hK) | (clear hK; rename ∀ st, Tri _ _ _ st _ → _ => hK; first | (apply hK; clear hK) | (clear hK; rename ∀ st, Tri _ _ _ st _ → _ => hK; first | (apply hK; clear hK) | (clear hK; rename ∀ st, Tri _ _ _ st _ → _ => hK; first | (apply hK; clear hK) | (clear hK; rename ∀ st, Tri _ _ _ st _ → _ => hK; first | (apply hK; clear hK) | (clear hK; rename ∀ st, Tri _ _ _ st _ → _ => hK; apply hK; clear hK)))))) | skip)
      | (intro β)
      | (rename ∀ st, Tri _ _ _ st _ → _ => hK; apply hK; clear hK))
    refine Tri.ret ⟨_, rfl, ?_⟩
    simp [upd]
    exact Wk.refl _
  rw [if_neg g1]
  by_cases g2 : 32 < n.nodes
  · rw [if_pos g2]
    repeat (first
      | (refine Tri.seq fun K hK => ?_)
      | (refine Tri.region ?_; simp [upd, bne, hml, g1, g2])
      | (refine Tri.draw (by kernel_rfl) (by decide +kernel) ?_; simp [upd, bne, hml, g1, g2])
      | (refine Tri.cond_true ?_ ?_; (focus simp [upd, bne, hml, g1, g2]; done))
      | (refine Tri.cond_false ?_ ?_; (focus simp [upd, bne, hml, g1, g2]; done))
      | (refine Tri.skip ?_; simp only [thenS, blockS])
      | (refine Tri.block_seq ?_)
      | (refine Tri.block_region ?_)
      | (refine Tri.block_cond ?_)
      | ((with_reducible refine CallK.pure (hp) (Wks.refl _) ?_); simp [upd, bne, hml, g1, g2])
      | ((with_reducible refine CallK.pure (hck) (Wks.refl _) ?_); simp [upd, bne, hml, g1, g2])
      | (refine Tri.exit ?_; simp [upd, bne, hml, g1, g2]; first | (rename ∀ st, Tri _ _ _ st _ → _ => hK; first | (apply hK; clear hK) | (clear hK; rename ∀ st, Tri _ _ _ st _ → _ => hK; first | (apply hK; clear hK) | (clear hK; rename ∀ st, Tri _ _ _ st _ → _ => hK; first | (apply hK; clear hK) | (clear hK; rename ∀ st, Tri _ _ _ st _ → _ => hK; first | (apply hK; clear hK) | (clear hK; rename ∀ st, Tri _ _ _ st _ → _ => hK; first | (apply hK; clear hK) | (clear hK; rename ∀ st, Tri _ _ _ st _ → _ => hK; apply hK; clear hK)))))) | skip)
      | (intro β)
      | (rename ∀ st, Tri _ _ _ st _ → _ => hK; apply hK; clear hK))
    refine Tri.ret ⟨_, rfl, ?_⟩
    simp [upd]
    exact Wk.refl _
  rw [if_neg g2]
  cases g3 : (powE n == 0)
  case false =>
    rw [if_neg (by simpa using g3)]
    repeat (first
      | (refine Tri.seq fun K hK => ?_)
      | (refine Tri.region ?_; simp [upd, bne, hml, g1, g2, g3])
      | (refine Tri.draw (by kernel_rfl) (by decide +kernel) ?_; simp [upd, bne, hml, g1, g2, g3])
      | (refine Tri.cond_true ?_ ?_; (focus simp [upd, bne, hml, g1, g2, g3]; done))
      | (refine Tri.cond_false ?_ ?_; (focus simp [upd, bne, hml, g1, g2, g3]; done))
      | (refine Tri.skip ?_; simp only [thenS, blockS])
      | (refine Tri.block_seq ?_)
      | (refine Tri.block_region ?_)
      | (refine Tri.block_cond ?_)
      | ((with_reducible refine CallK.pure (hp) (Wks.refl _) ?_); simp [upd, bne, hml, g1, g2, g3])
      | ((with_reducible refine CallK.pure (hck) (Wks.refl _) ?_); simp [upd, bne, hml, g1, g2, g3])
      | (refine Tri.exit ?_; simp [upd, bne, hml, g1, g2, g3]; first | (rename ∀ st, Tri _ _ _ st _ → _ => hK; first | (apply hK; clear hK) | (clear hK; rename ∀ st, Tri _ _ _ st _ → _ => hK; first | (apply hK; clear hK) | (clear hK; rename ∀ st, Tri _ _ _ st _ → _ => hK; first | (apply hK; clear hK) | (clear hK; rename ∀ st, Tri _ _ _ st _ → _ => hK; first | (apply hK; clear hK) | (clear hK; rename ∀ st, Tri _ _ _ st _ → _ => hK; first | (apply hK; clear hK) | (clear hK; rename ∀ st, Tri _ _ _ st _ → _ => hK; apply hK; clear hK)))))) | skip)
      | (intro β)
      | (rename ∀ st, Tri _ _ _ st _ → _ => hK; apply hK; clear hK))
    refine Tri.ret ⟨_, rfl, ?_⟩
    simp [upd]
    exact Wk.refl _
  have g3' : powE n = 0 := by simpa using g3
  rw [if_pos g3']
  by_cases g4 : n.noise < 0
  · rw [if_pos g4]
    repeat (first
      | (refine Tri.seq fun K hK => ?_)
      | (refine Tri.region ?_; simp [upd, bne, hml, g1, g2, g3, g4])
      | (refine Tri.draw (by kernel_rfl) (by decide +kernel) ?_; simp [upd, bne, hml, g1, g2, g3, g4])
      | (refine Tri.cond_true ?_ ?_; (focus simp [upd, bne, hml, g1, g2, g3, g4]; done))
      | (refine Tri.cond_false ?_ ?_; (focus simp [upd, bne, hml, g1, g2, g3, g4]; done))
      | (refine Tri.skip ?_; simp only [thenS, blockS])
      | (refine Tri.block_seq ?_)
      | (refine Tri.block_region ?_)
      | (refine Tri.block_cond ?_)
      | ((with_reducible refine CallK.pure (hp) (Wks.refl _) ?_); simp [upd, bne, hml, g1, g2, g3, g4])
      | ((with_reducible refine CallK.pure (hck) (Wks.refl _) ?_); simp [upd, bne, hml, g1, g2, g3, g4])
      | (refine Tri.exit ?_; simp [upd, bne, hml, g1, g2, g3, g4]; first | (rename ∀ st, Tri _ _ _ st _ → _ => hK; first | (apply hK; clear hK) | (clear hK; rename ∀ st, Tri _ _ _ st _ → _ => hK; first | (apply hK; clear hK) | (clear hK; rename ∀ st, Tri _ _ _ st _ → _ => hK; first | (apply hK; clear hK) | (clear hK; rename ∀ st, Tri _ _ _ st _ → _ => hK; first | (apply hK; clear hK) | (clear hK; rename ∀ st, Tri _ _ _ st _ → _ => hK; first | (apply hK; clear hK) | (clear hK; rename ∀ st, Tri _ _ _ st _ → _ => hK; apply hK; clear hK)))))) | skip)
      | (intro β)
      | (rename ∀ st, Tri _ _ _ st _ → _ => hK; apply hK; clear hK))
    refine Tri.ret ⟨_, rfl, ?_⟩
    simp [upd]
    exact Wk.refl _
  rw [if_neg g4]
  by_cases g5 : 68719476736 < n.noise
  · rw [if_pos g5]
    repeat (first
      | (refine Tri.seq fun K hK => ?_)
      | (refine Tri.region ?_; simp [upd, bne, hml, g1, g2, g3, g4, g5])
      | (refine Tri.draw (by kernel_rfl) (by decide +kernel) ?_; simp [upd, bne, hml, g1, g2, g3, g4, g5])
      | (refine Tri.cond_true ?_ ?_; (focus simp [upd, bne, hml, g1, g2, g3, g4, g5]; done))
      | (refine Tri.cond_false ?_ ?_; (focus simp [upd, bne, hml, g1, g2, g3, g4, g5]; done))
      | (refine Tri.skip ?_; simp only [thenS, blockS])
      | (refine Tri.block_seq ?_)
      | (refine Tri.block_region ?_)
      | (refine Tri.block_cond ?_)
      | ((with_reducible refine CallK.pure (hp) (Wks.refl _) ?_); simp [upd, bne, hml, g1, g2, g3, g4, g5])
      | ((with_reducible refine CallK.pure (hck) (Wks.refl _) ?_); simp [upd, bne, hml, g1, g2, g3, g4, g5])
      | (refine Tri.exit ?_; simp [upd, bne, hml, g1, g2, g3, g4, g5]; first | (rename ∀ st, Tri _ _ _ st _ → _ => hK; first | (apply hK; clear hK) | (clear hK; rename ∀ st, Tri _ _ _ st _ → _ => hK; first | (apply hK; clear hK) | (clear hK; rename ∀ st, Tri _ _ _ st _ → _ => hK; first | (apply hK; clear hK) | (clear hK; rename ∀ st, Tri _ _ _ st _ → _ => hK; first | (apply hK; clear hK) | (clear hK; rename ∀ st, Tri _ _ _ st _ → _ => hK; first | (apply hK; clear hK) | (clear hK; rename ∀ st, Tri _ _ _ st _ → _ => hK; apply hK; clear hK)))))) | skip)
      | (intro β)
      | (rename ∀ st, Tri _ _ _ st _ → _ => hK; apply hK; clear hK))
    refine Tri.ret ⟨_, rfl, ?_⟩
    simp [upd]
    exact Wk.refl _
  rw [if_neg g5]
  by_cases g6 : n.thr < 1000
  · rw [if_pos g6]
    repeat (first
      | (refine Tri.seq fun K hK => ?_)
      | (refine Tri.region ?_; simp [upd, bne, hml, g1, g2, g3, g4, g5, g6])
      | (refine Tri.draw (by kernel_rfl) (by decide +kernel) ?_; simp [upd, bne, hml, g1, g2, g3, g4, g5, g6])
      | (refine Tri.cond_true ?_ ?_; (focus simp [upd, bne, hml, g1, g2, g3, g4, g5, g6]; done))
      | (refine Tri.cond_false ?_ ?_; (focus simp [upd, bne, hml, g1, g2, g3, g4, g5, g6]; done))
      | (refine Tri.skip ?_; simp only [thenS, blockS])
      | (refine Tri.block_seq ?_)
      | (refine Tri.block_region ?_)
      | (refine Tri.block_cond ?_)
      | ((with_reducible refine CallK.pure (hp) (Wks.refl _) ?_); simp [upd, bne, hml, g1, g2, g3, g4, g5, g6])
      | ((with_reducible refine CallK.pure (hck) (Wks.refl _) ?_); simp [upd, bne, hml, g1, g2, g3, g4, g5, g6])
      | (refine Tri.exit ?_; simp [upd, bne, hml, g1, g2, g3, g4, g5, g6]; first | (rename ∀ st, Tri _ _ _ st _ → _ => hK; first | (apply hK; clear hK) | (clear hK; rename ∀ st, Tri _ _ _ st _ → _ => hK; first | (apply hK; clear hK) | (clear hK; rename ∀ st, Tri _ _ _ st _ → _ => hK; first | (apply hK; clear hK) | (clear hK; rename ∀ st, Tri _ _ _ st _ → _ => hK; first | (apply hK; clear hK) | (clear hK; rename ∀ st, Tri _ _ _ st _ → _ => hK; first | (apply hK; clear hK) | (clear hK; rename ∀ st, Tri _ _ _ st _ → _ => hK; apply hK; clear hK)))))) | skip)
      | (intro β)
      | (rename ∀ st, Tri _ _ _ st _ → _ => hK; apply hK; clear hK))
    refine Tri.ret ⟨_, rfl, ?_⟩
    simp [upd]
    exact Wk.refl _
  rw [if_neg g6]
  by_cases g7 : 100000 < n.thr
  · rw [if_pos g7]
    repeat (first
      | (refine Tri.seq fun K hK => ?_)
      | (refine Tri.region ?_; simp [upd, bne, hml, g1, g2, g3, g4, g5, g6, g7])
      | (refine Tri.draw (by kernel_rfl) (by decide +kernel) ?_; simp [upd, bne, hml, g1, g2, g3, g4, g5, g6, g7])
      | (refine Tri.cond_true ?_ ?_; (focus simp [upd, bne, hml, g1, g2, g3, g4, g5, g6, g7]; done))
      | (refine Tri.cond_false ?_ ?_; (focus simp [upd, bne, hml, g1, g2, g3, g4, g5, g6, g7]; done))
      | (refine Tri.skip ?_; simp only [thenS, blockS])
      | (refine Tri.block_seq ?_)
      | (refine Tri.block_region ?_)
      | (refine Tri.block_cond ?_)
      | ((with_reducible refine CallK.pure (hp) (Wks.refl _) ?_); simp [upd, bne, hml, g1, g2, g3, g4, g5, g6, g7])
      | ((with_reducible refine CallK.pure (hck) (Wks.refl _) ?_); simp [upd, bne, hml, g1, g2, g3, g4, g5, g6, g7])
      | (refine Tri.exit ?_; simp [upd, bne, hml, g1, g2, g3, g4, g5, g6, g7]; first | (rename ∀ st, Tri _ _ _ st _ → _ => hK; first | (apply hK; clear hK) | (clear hK; rename ∀ st, Tri _ _ _ st _ → _ => hK; first | (apply hK; clear hK) | (clear hK; rename ∀ st, Tri _ _ _ st _ → _ => hK; first | (apply hK; clear hK) | (clear hK; rename ∀ st, Tri _ _ _ st _ → _ => hK; first | (apply hK; clear hK) | (clear hK; rename ∀ st, Tri _ _ _ st _ → _ => hK; first | (apply hK; clear hK) | (clear hK; rename ∀ st, Tri _ _ _ st _ → _ => hK; apply hK; clear hK)))))) | skip)
      | (intro β)
      | (rename ∀ st, Tri _ _ _ st _ → _ => hK; apply hK; clear hK))
    refine Tri.ret ⟨_, rfl, ?_⟩
    simp [upd]
    exact Wk.refl _
  rw [if_neg g7]
  by_cases g8 : (128 : Int) < (n.links.length : Int)
  · rw [if_pos (by omega)]
    repeat (first
      | (refine Tri.seq fun K hK => ?_)
      | (refine Tri.region ?_; simp [upd, bne, hml, g1, g2, g3, g4, g5, g6, g7, g8])
      | (refine Tri.draw (by kernel_rfl) (by decide +kernel) ?_; simp [upd, bne, hml, g1, g2, g3, g4, g5, g6, g7, g8])
      | (refine Tri.cond_true ?_ ?_; (focus simp [upd, bne, hml, g1, g2, g3, g4, g5, g6, g7, g8]; done))
      | (refine Tri.cond_false ?_ ?_; (focus simp [upd, bne, hml, g1, g2, g3, g4, g5, g6, g7, g8]; done))
      | (refine Tri.skip ?_; simp only [thenS, blockS])
      | (refine Tri.block_seq ?_)
      | (refine Tri.block_region ?_)
      | (refine Tri.block_cond ?_)
      | ((with_reducible refine CallK.pure (hp) (Wks.refl _) ?_); simp [upd, bne, hml, g1, g2, g3, g4, g5, g6, g7, g8])
      | ((with_reducible refine CallK.pure (hck) (Wks.refl _) ?_); simp [upd, bne, hml, g1, g2, g3, g4, g5, g6, g7, g8])
      | (refine Tri.exit ?_; simp [upd, bne, hml, g1, g2, g3, g4, g5, g6, g7, g8]; first | (rename ∀ st, Tri _ _ _ st _ → _ => hK; first | (apply hK; clear hK) | (clear hK; rename ∀ st, Tri _ _ _ st _ → _ => hK; first | (apply hK; clear hK) | (clear hK; rename ∀ st, Tri _ _ _ st _ → _ => hK; first | (apply hK; clear hK) | (clear hK; rename ∀ st, Tri _ _ _ st _ → _ => hK; first | (apply hK; clear hK) | (clear hK; rename ∀ st, Tri _ _ _ st _ → _ => hK; first | (apply hK; clear hK) | (clear hK; rename ∀ st, Tri _ _ _ st _ → _ => hK; apply hK; clear hK)))))) | skip)
      | (intro β)
      | (rename ∀ st, Tri _ _ _ st _ → _ => hK; apply hK; clear hK))
    refine Tri.ret ⟨_, rfl, ?_⟩
    simp [upd]
    exact Wk.refl _
  rw [if_neg (by omega)]
  cases g9 : ((n.marg.length : Int) == (n.links.length : Int))
  case false =>
    rw [if_neg (by simp at g9; omega)]
    repeat (first
      | (refine Tri.seq fun K hK => ?_)
      | (refine Tri.region ?_; simp [upd, bne, hml, g1, g2, g3, g4, g5, g6, g7, g8, g9])
      | (refine Tri.draw (by kernel_rfl) (by decide +kernel) ?_; simp [upd, bne, hml, g1, g2, g3, g4, g5, g6, g7, g8, g9])
      | (refine Tri.cond_true ?_ ?_; (focus simp [upd, bne, hml, g1, g2, g3, g4, g5, g6, g7, g8, g9]; done))
      | (refine Tri.cond_false ?_ ?_; (focus simp [upd, bne, hml, g1, g2, g3, g4, g5, g6, g7, g8, g9]; done))
      | (refine Tri.skip ?_; simp only [thenS, blockS])
      | (refine Tri.block_seq ?_)
      | (refine Tri.block_region ?_)
      | (refine Tri.block_cond ?_)
      | ((with_reducible refine CallK.pure (hp) (Wks.refl _) ?_); simp [upd, bne, hml, g1, g2, g3, g4, g5, g6, g7, g8, g9])
      | ((with_reducible refine CallK.pure (hck) (Wks.refl _) ?_); simp [upd, bne, hml, g1, g2, g3, g4, g5, g6, g7, g8, g9])
      | (refine Tri.exit ?_; simp [upd, bne, hml, g1, g2, g3, g4, g5, g6, g7, g8, g9]; first | (rename ∀ st, Tri _ _ _ st _ → _ => hK; first | (apply hK; clear hK) | (clear hK; rename ∀ st, Tri _ _ _ st _ → _ => hK; first | (apply hK; clear hK) | (clear hK; rename ∀ st, Tri _ _ _ st _ → _ => hK; first | (apply hK; clear hK) | (clear hK; rename ∀ st, Tri _ _ _ st _ → _ => hK; first | (apply hK; clear hK) | (clear hK; rename ∀ st, Tri _ _ _ st _ → _ => hK; first | (apply hK; clear hK) | (clear hK; rename ∀ st, Tri _ _ _ st _ → _ => hK; apply hK; clear hK)))))) | skip)
      | (intro β)
      | (rename ∀ st, Tri _ _ _ st _ → _ => hK; apply hK; clear hK))
    refine Tri.ret ⟨_, rfl, ?_⟩
    simp [upd]
    exact Wk.refl _
  have hle : n.marg.length = n.links.length := by simp at g9; omega
  rw [if_pos hle]
  repeat (first
    | (refine Tri.seq fun K hK => ?_)
    | (refine Tri.region ?_; simp [upd, bne, g1, g2, g3, g4, g5, g6, g7, g8, g9])
    | (refine Tri.draw (by kernel_rfl) (by decide +kernel) ?_; simp [upd, bne, g1, g2, g3, g4, g5, g6, g7, g8, g9])
    | (refine Tri.cond_true ?_ ?_; (focus simp [upd, bne, g1, g2, g3, g4, g5, g6, g7, g8, g9]; done))
    | (refine Tri.cond_false ?_ ?_; (focus simp [upd, bne, g1, g2, g3, g4, g5, g6, g7, g8, g9]; done))
    | (refine Tri.skip ?_; simp only [thenS, blockS])
    | (refine Tri.block_seq ?_)
    | (refine Tri.block_region ?_)
    | (refine Tri.block_cond ?_)
    | ((with_reducible refine CallK.pure (hp) (Wks.refl _) ?_); simp [upd, bne, g1, g2, g3, g4, g5, g6, g7, g8, g9])
    | (refine Tri.exit ?_; simp [upd, bne, g1, g2, g3, g4, g5, g6, g7, g8, g9]; first | (rename ∀ st, Tri _ _ _ st _ → _ => hK; first | (apply hK; clear hK) | (clear hK; rename ∀ st, Tri _ _ _ st _ → _ => hK; first | (apply hK; clear hK) | (clear hK; rename ∀ st, Tri _ _ _ st _ → _ => hK; first | (apply hK; clear hK) | (clear hK; rename ∀ st, Tri _ _ _ st _ → _ => hK; first | (apply hK; clear hK) | (clear hK; rename ∀ st, Tri _ _ _ st _ → _ => hK; first | (apply hK; clear hK) | (clear hK; rename ∀ st, Tri _ _ _ st _ → _ => hK; apply hK; clear hK)))))) | skip)
    | (intro β)
    | (rename ∀ st, Tri _ _ _ st _ → _ => hK; apply hK; clear hK))
  refine Tri.range 54 53 55 63 64 rfl rfl n.links.length (fun k st => ∃ b1, st.sl 1 = .c (.box 1 b1 0) ∧ st.bx 1 = some (b1, netC n) ∧ linksGo n none n.links n.marg = linksGo n (if k = 0 then none else n.links[k-1]?) (n.links.drop k) (n.marg.drop k)) (by simp) (by omega) ?_ rfl (by simp [upd]) (by simp [upd]) ?_ ?_ ?_
  · rintro k st t v ht ⟨b1, a1, a2, a3⟩
    rcases ht with rfl | rfl | rfl <;> exact ⟨b1, by simpa [upd] using a1, by simpa using a2, a3⟩
  · exact ⟨_, by simp [upd] <;> exact rfl, by simp [upd, netC, I1] <;> exact rfl, by simp⟩
  · rintro k st hk ⟨b1, s1, x1, hgo⟩ hn h54 h53
    have hkm : k < n.marg.length := by omega
    have hd : n.links.drop k = n.links[k] :: n.links.drop (k + 1) := List.drop_eq_getElem_cons hk
    have hd2 : n.marg.drop k = n.marg[k] :: n.marg.drop (k + 1) := List.drop_eq_getElem_cons hkm
    rw [hd, hd2, linksGo] at hgo
    have hcl := checkLink_does n k hk hkm g3' (by omega) (by omega)
    simp only [netC, I1] at hcl x1
    cases g : (link1 n (if k = 0 then none else n.links[k-1]?) n.links[k] n.marg[k] == 0)
    case false =>
      rw [if_neg (by simpa using g)] at hgo
      rw [hgo]
      generalize link1 n (if k = 0 then none else n.links[k-1]?) n.links[k] n.marg[k] = e at *
      repeat (first
        | (refine Tri.seq fun K hK => ?_)
        | (refine Tri.region ?_; simp [upd, hn, s1, x1, h54, h53, hk, g, bne])
        | (refine Tri.draw (by kernel_rfl) (by decide +kernel) ?_; simp [upd, hn, s1, x1, h54, h53, hk, g, bne])
        | (refine Tri.cond_true ?_ ?_; (focus simp [upd, hn, s1, x1, h54, h53, hk, g, bne]; done))
        | (refine Tri.cond_false ?_ ?_; (focus simp [upd, hn, s1, x1, h54, h53, hk, g, bne]; done))
        | (refine Tri.skip ?_; simp only [thenS, blockS])
        | (refine Tri.block_seq ?_)
        | (refine Tri.block_region ?_)
        | (refine Tri.block_cond ?_)
        | ((with_reducible refine CallK.pure (hcl) (Wks.refl _) ?_); simp [upd, hn, s1, x1, h54, h53, hk, g, bne])
        | (refine Tri.exit ?_; simp [upd, hn, s1, x1, h54, h53, hk, g, bne]; first | (rename ∀ st, Tri _ _ _ st _ → _ => hK; first | (apply hK; clear hK) | (clear hK; rename ∀ st, Tri _ _ _ st _ → _ => hK; first | (apply hK; clear hK) | (clear hK; rename ∀ st, Tri _ _ _ st _ → _ => hK; first | (apply hK; clear hK) | (clear hK; rename ∀ st, Tri _ _ _ st _ → _ => hK; first | (apply hK; clear hK) | (clear hK; rename ∀ st, Tri _ _ _ st _ → _ => hK; first | (apply hK; clear hK) | (clear hK; rename ∀ st, Tri _ _ _ st _ → _ => hK; apply hK; clear hK)))))) | skip)
        | (intro β)
        | (rename ∀ st, Tri _ _ _ st _ → _ => hK; apply hK; clear hK))
      refine Tri.ret ⟨_, rfl, ?_⟩
      simp [upd]
      exact Wk.refl _
    rw [if_pos (by simpa using g)] at hgo
    have g' : link1 n (if k = 0 then none else n.links[k-1]?) n.links[k] n.marg[k] = 0 := by simpa using g
    rw [g'] at hcl
    repeat (first
      | (refine Tri.seq fun K hK => ?_)
      | (refine Tri.region ?_; simp [upd, hn, s1, x1, h54, h53, hk, bne])
      | (refine Tri.draw (by kernel_rfl) (by decide +kernel) ?_; simp [upd, hn, s1, x1, h54, h53, hk, bne])
      | (refine Tri.cond_true ?_ ?_; (focus simp [upd, hn, s1, x1, h54, h53, hk, bne]; done))
      | (refine Tri.cond_false ?_ ?_; (focus simp [upd, hn, s1, x1, h54, h53, hk, bne]; done))
      | (refine Tri.skip ?_; simp only [thenS, blockS])
      | (refine Tri.block_seq ?_)
      | (refine Tri.block_region ?_)
      | (refine Tri.block_cond ?_)
      | ((with_reducible refine CallK.pure (hcl) (Wks.refl _) ?_); simp [upd, hn, s1, x1, h54, h53, hk, bne])
      | (refine Tri.exit ?_; simp [upd, hn, s1, x1, h54, h53, hk, bne]; first | (rename ∀ st, Tri _ _ _ st _ → _ => hK; first | (apply hK; clear hK) | (clear hK; rename ∀ st, Tri _ _ _ st _ → _ => hK; first | (apply hK; clear hK) | (clear hK; rename ∀ st, Tri _ _ _ st _ → _ => hK; first | (apply hK; clear hK) | (clear hK; rename ∀ st, Tri _ _ _ st _ → _ => hK; first | (apply hK; clear hK) | (clear hK; rename ∀ st, Tri _ _ _ st _ → _ => hK; first | (apply hK; clear hK) | (clear hK; rename ∀ st, Tri _ _ _ st _ → _ => hK; apply hK; clear hK)))))) | skip)
      | (intro β)
      | (rename ∀ st, Tri _ _ _ st _ → _ => hK; apply hK; clear hK))
    refine ⟨⟨b1, by simp [upd, s1], by simp [upd, x1, netC, I1], ?_⟩, ?_⟩
    · rw [hgo, if_neg (by omega), Nat.add_sub_cancel, List.getElem?_eq_getElem hk]
    · simp [upd, h54, h53]
  · rintro st ⟨b1, s1, x1, hgo⟩ hn
    rw [List.drop_length, List.drop_of_length_le (by omega)] at hgo
    rename ∀ st, Tri _ _ _ st _ → _ => hK
    apply hK
    rw [hgo]
    unfold linksGo
    repeat (first
      | (refine Tri.seq fun K hK => ?_)
      | (refine Tri.region ?_; simp [upd, hn])
      | (refine Tri.draw (by kernel_rfl) (by decide +kernel) ?_; simp [upd, hn])
      | (refine Tri.cond_true ?_ ?_; (focus simp [upd, hn]; done))
      | (refine Tri.cond_false ?_ ?_; (focus simp [upd, hn]; done))
      | (refine Tri.skip ?_; simp only [thenS, blockS])
      | (refine Tri.block_seq ?_)
      | (refine Tri.block_region ?_)
      | (refine Tri.block_cond ?_)
      | (refine Tri.exit ?_; simp [upd, hn]; first | (rename ∀ st, Tri _ _ _ st _ → _ => hK; first | (apply hK; clear hK) | (clear hK; rename ∀ st, Tri _ _ _ st _ → _ => hK; first | (apply hK; clear hK) | (clear hK; rename ∀ st, Tri _ _ _ st _ → _ => hK; first | (apply hK; clear hK) | (clear hK; rename ∀ st, Tri _ _ _ st _ → _ => hK; first | (apply hK; clear hK) | (clear hK; rename ∀ st, Tri _ _ _ st _ → _ => hK; first | (apply hK; clear hK) | (clear hK; rename ∀ st, Tri _ _ _ st _ → _ => hK; apply hK; clear hK)))))) | skip)
      | (intro β)
      | (rename ∀ st, Tri _ _ _ st _ → _ => hK; apply hK; clear hK))
    refine Tri.ret ⟨_, rfl, ?_⟩
    simp [upd]
    exact Wk.refl _
end Go.Proofs.Ytngbpmiikpjiaaa
end
section
open Go Go.Vm
namespace Go.Proofs.Ytngbpmiikpjiaaa
set_option maxRecDepth 100000
set_option maxHeartbeats 8000000
set_option linter.unusedSimpArgs false
attribute [-simp] isObj C.isO
attribute [local irreducible] Tri Does DoesB DoesR Rounds
/-- The network and the record of the chapter's example. -/
def exN : Net := ⟨2, false, [(false, [0, 9]), (false, [9, 0])], 1, 1000, false, [⟨1, 0, 1⟩], false, [5]⟩
def exA (s : Int) : Att := ⟨s, 0, s, 0, 1, 0, 6, 3⟩
def exB : Rec := ⟨5, false, [exA 1, exA 2, exA 3], true, []⟩
theorem netE_ex : netE exN = 0 := by kernel_rfl
theorem checkB_ex : check exB = 0 := by kernel_rfl
theorem lossesB_ex : losses ⟨0, false, [exA 1, exA 2, exA 3], true, []⟩ 6 0 1 0 = [[1, 2, 3]] := by kernel_rfl
theorem exN_ok : NetOk exN := ⟨by decide, by decide, by decide, by decide⟩
theorem breaches_ex : Does Try.prog 17 [.agg (netC exN), .agg (recC exB)] (.tup [.c (.sl false 5 none [[.int .i64 6, .int .i64 0, .int .i64 1, .int .i64 0, .sl false 1 none [[.int .i64 1], [.int .i64 2]]]]), .c (.int .i64 0)]) := by
  refine Does.of_body Try.func17 rfl (by kernel_rfl) rfl rfl (by simp) ?_
  intro E
  have h1 := checkNet_does exN exN_ok
  rw [netE_ex] at h1
  have h2 := check_does exB
  rw [checkB_ex] at h2
  have h3 := losses_does ⟨0, false, [exA 1, exA 2, exA 3], true, []⟩ 6 0 1 0 (by decide)
  rw [lossesB_ex] at h3
  have h4 := cloneI_does [1, 2] false (by simp) (by decide)
  have h5 := sort_1 [.int .i64 6, .int .i64 0, .int .i64 1, .int .i64 0, .sl false 1 none [[.int .i64 1], [.int .i64 2]]]
  simp only [netC, recC, exN, exB, exA, rowC, I1, List.map, lnkC, attC, runsC, runC, List.isEmpty] at h1 h2 h3 h4 h5 ⊢
  repeat (first
    | (refine Tri.seq fun K hK => ?_)
    | (refine Tri.region ?_; simp [upd, bne, nextV, itObj, leftI, entV, Nat.mod_one])
    | (refine Tri.draw (by kernel_rfl) (by decide +kernel) ?_; simp [upd, bne, nextV, itObj, leftI, entV, Nat.mod_one])
    | (refine Tri.draw2 [] [0, 1, 2, 3, 4, 5, 6, 7, 8, 9, 10, 11] [12, 13, 14, 15, 16] [] (by kernel_rfl) (by kernel_rfl) (by decide) (by rfl) (by decide +kernel) ?_; simp [upd, bne, nextV, itObj, leftI, entV, Nat.mod_one])
    | (refine Tri.draw2 [] [0, 1, 2, 3, 4, 5, 6, 7, 8, 9, 10, 11, 12, 13] [] [] (by kernel_rfl) (by kernel_rfl) (by decide) (by rfl) (by decide +kernel) ?_; simp [upd, bne, nextV, itObj, leftI, entV, Nat.mod_one])
    | (refine Tri.draw2 [] [0, 1, 2, 3, 4, 5, 6, 7, 8, 9, 10, 11, 12, 13, 14, 15] [16, 17] [] (by kernel_rfl) (by kernel_rfl) (by decide) (by rfl) (by decide +kernel) ?_; simp [upd, bne, nextV, itObj, leftI, entV, Nat.mod_one])
    | (refine Tri.cond_true ?_ ?_; (focus simp [upd, bne, nextV, itObj, leftI, entV, Nat.mod_one]; done))
    | (refine Tri.cond_false ?_ ?_; (focus simp [upd, bne, nextV, itObj, leftI, entV, Nat.mod_one]; done))
    | (refine Tri.skip ?_; simp only [thenS, blockS])
    | (refine Tri.block_seq ?_)
    | (refine Tri.block_region ?_)
    | (refine Tri.block_cond ?_)
    | ((with_reducible refine CallK.pure (h1) (Wks.refl _) ?_); simp [upd, bne, nextV, itObj, leftI, entV, Nat.mod_one])
    | ((with_reducible refine CallK.pure (h2) (Wks.refl _) ?_); simp [upd, bne, nextV, itObj, leftI, entV, Nat.mod_one])
    | (refine CallK.pure h3 ⟨.agg3 (.refl _) (.untag _ _ _ _) (.nil _ _ _ _), .refl _, .refl _, .refl _, .refl _, trivial⟩ ?_; simp [upd, bne, nextV, itObj, leftI, entV, Nat.mod_one])
    | ((with_reducible refine CallK.pure (h4) (Wks.refl _) ?_); simp [upd, bne, nextV, itObj, leftI, entV, Nat.mod_one])
    | (refine CallK.pure h5 ⟨.untag _ _ _ _, .refl _, trivial⟩ ?_; simp [upd, bne, nextV, itObj, leftI, entV, Nat.mod_one])
    | (refine Tri.block_loop 8 ?_)
    | (refine Rounds.step ?_)
    | (refine Tri.exit ?_; simp [upd, bne, nextV, itObj, leftI, entV, Nat.mod_one]; first | (rename ∀ st, Tri _ _ _ st _ → _ => hK; first | (apply hK; clear hK) | (clear hK; rename ∀ st, Tri _ _ _ st _ → _ => hK; first | (apply hK; clear hK) | (clear hK; rename ∀ st, Tri _ _ _ st _ → _ => hK; first | (apply hK; clear hK) | (clear hK; rename ∀ st, Tri _ _ _ st _ → _ => hK; first | (apply hK; clear hK) | (clear hK; rename ∀ st, Tri _ _ _ st _ → _ => hK; first | (apply hK; clear hK) | (clear hK; rename ∀ st, Tri _ _ _ st _ → _ => hK; apply hK; clear hK)))))) | skip)
    | (intro β)
    | (rename ∀ st, Tri _ _ _ st _ → _ => hK; apply hK; clear hK))
  refine Tri.ret ⟨_, rfl, ?_⟩
  simp [upd]
  exact .tup2 (.untag _ _ _ _) (.refl _)
end Go.Proofs.Ytngbpmiikpjiaaa
end
section
open Go Go.Vm
namespace Go.Proofs.Ytngbpmiikpjiaaa
set_option maxRecDepth 100000
set_option maxHeartbeats 8000000
set_option linter.unusedSimpArgs false
attribute [-simp] isObj C.isO
attribute [local irreducible] Tri Does DoesB DoesR Rounds
def exF : Flo := ⟨6, 1, 0, 8, 0, 5⟩
theorem ex1 : lateN [exF] ⟨6, true, [], false, [⟨6, 0, 5⟩]⟩ = [⟨6, 0, 5⟩] := by kernel_rfl
theorem ex1e : lateE [exF] ⟨6, true, [], false, [⟨6, 0, 5⟩]⟩ = 0 := by kernel_rfl
theorem ex2 : serveN [exF] ⟨5, true, [], false, [⟨6, 0, 4⟩]⟩ 6 = ⟨1, 0, 5, 5, 0, 0⟩ := by kernel_rfl
theorem ex2e : serveE [exF] ⟨5, true, [], false, [⟨6, 0, 4⟩]⟩ 6 = 0 := by kernel_rfl
theorem ex4 : twN ⟨9, true, [], false, [⟨1, 0, 0⟩, ⟨1, 0, 8⟩]⟩ = [⟨1, 0, 8⟩] := by kernel_rfl
theorem ex4e : twE ⟨9, true, [], false, [⟨1, 0, 0⟩, ⟨1, 0, 8⟩]⟩ = 0 := by kernel_rfl
theorem ex5 : strayN [] exB = [exA 1, exA 2, exA 3] := by kernel_rfl
theorem ex5e : lateE [] exB = 0 := by kernel_rfl
theorem awake_does : Does Try.prog 9 [] (.c (.bool true)) := by
  refine Does.of_body Try.func9 rfl (by kernel_rfl) rfl rfl (by simp) ?_
  intro E
  have l1 := late_does [exF] false ⟨6, true, [], false, [⟨6, 0, 5⟩]⟩
  rw [ex1, ex1e] at l1
  have l2 := serve_does [exF] false ⟨5, true, [], false, [⟨6, 0, 4⟩]⟩ 6
  rw [ex2, ex2e] at l2
  have l3 := breaches_ex
  have l4 := twice_does ⟨9, true, [], false, [⟨1, 0, 0⟩, ⟨1, 0, 8⟩]⟩
  rw [ex4, ex4e] at l4
  have l5 := stray_does [] true exB
  rw [ex5, ex5e] at l5
  have l6 := equalI_does [1, 2] [1, 2] false false (by simp)
  simp only [netC, recC, exN, exB, exA, exF, rowC, I1, List.map, lnkC, attC, delC, latC, svcC, floC, runsC, runC, List.isEmpty] at l1 l2 l3 l4 l5 l6
  repeat (first
    | (refine Tri.seq fun K hK => ?_)
    | (refine Tri.region ?_; simp [upd])
    | (refine Tri.draw (by kernel_rfl) (by decide +kernel) ?_; simp [upd])
    | (refine Tri.cond_true ?_ ?_; (focus simp [upd]; done))
    | (refine Tri.cond_false ?_ ?_; (focus simp [upd]; done))
    | (refine Tri.skip ?_; simp only [thenS, blockS])
    | (refine Tri.block_seq ?_)
    | (refine Tri.block_region ?_)
    | (refine Tri.block_cond ?_)
    | (refine CallK.pure l1 ⟨.refl _, .agg3 (.refl _) (.nil _ _ _ _) (.refl _), trivial⟩ ?_; simp [upd])
    | (refine CallK.pure l2 ⟨.refl _, .agg3 (.refl _) (.nil _ _ _ _) (.refl _), .refl _, trivial⟩ ?_; simp [upd])
    | (refine CallK.pure l3 ⟨.refl _, .agg3 (.refl _) (.untag _ _ _ _) (.nil _ _ _ _), trivial⟩ ?_; simp [upd])
    | (refine CallK.pure l4 ⟨.agg3 (.refl _) (.nil _ _ _ _) (.refl _), trivial⟩ ?_; simp [upd])
    | (refine CallK.pure l5 ⟨.nil _ _ _ _, .agg3 (.refl _) (.untag _ _ _ _) (.nil _ _ _ _), trivial⟩ ?_; simp [upd])
    | ((with_reducible refine CallK.pure (l6) (Wks.refl _) ?_); simp [upd])
    | (refine Tri.block_loop 8 ?_)
    | (refine Rounds.step ?_)
    | (refine Tri.exit ?_; simp [upd]; first | (rename ∀ st, Tri _ _ _ st _ → _ => hK; first | (apply hK; clear hK) | (clear hK; rename ∀ st, Tri _ _ _ st _ → _ => hK; first | (apply hK; clear hK) | (clear hK; rename ∀ st, Tri _ _ _ st _ → _ => hK; first | (apply hK; clear hK) | (clear hK; rename ∀ st, Tri _ _ _ st _ → _ => hK; first | (apply hK; clear hK) | (clear hK; rename ∀ st, Tri _ _ _ st _ → _ => hK; first | (apply hK; clear hK) | (clear hK; rename ∀ st, Tri _ _ _ st _ → _ => hK; apply hK; clear hK)))))) | skip)
    | (intro β)
    | (rename ∀ st, Tri _ _ _ st _ → _ => hK; apply hK; clear hK))
  refine Tri.ret ⟨_, rfl, ?_⟩
  simp [upd]
  exact Wk.refl _
end Go.Proofs.Ytngbpmiikpjiaaa
end
