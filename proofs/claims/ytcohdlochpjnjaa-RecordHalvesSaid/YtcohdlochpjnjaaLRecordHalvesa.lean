/- Lemmas for the statements of this seat: R37 R38 R24 R25 R39 R42 R43 PlH. -/
import Derived.Test.YtcohdlochpjnjaaB4
set_option linter.all false
section
open Go Go.Vm
namespace Go.Proofs.Ytcohdlochpjnjaa
set_option maxRecDepth 100000
set_option maxHeartbeats 4000000
set_option linter.unusedSimpArgs false
attribute [local irreducible] Tri Does DoesB Rounds check sameB
theorem grow0A : Does Try.prog 65 [.c (.sl true 0 none []), .c (.int .i64 0)] (.c (.sl true 0 none [])) := by
  refine Does.of_body Try.func65 rfl (by kernel_rfl) rfl rfl (by simp) ?_
  intro E
  repeat (first
    | (refine Tri.seq fun K hK => ?_)
    | (refine Tri.region ?_; simp [upd])
    | (refine Tri.draw (by kernel_rfl) (by decide +kernel) ?_; simp [upd])
    | (refine Tri.cond_true ?_ ?_; (focus simp [upd]; done))
    | (refine Tri.cond_false ?_ ?_; (focus simp [upd]; done))
    | (refine Tri.skip ?_; simp only [thenS, blockS])
    | (refine Tri.block_seq ?_)
    | (refine Tri.block_region ?_)
    | (refine Tri.block_cond ?_)
    | (refine Tri.exit ?_; simp [upd]; first | (rename ∀ st, Tri _ _ _ st _ → _ => hK; first | (apply hK; clear hK) | (clear hK; rename ∀ st, Tri _ _ _ st _ → _ => hK; first | (apply hK; clear hK) | (clear hK; rename ∀ st, Tri _ _ _ st _ → _ => hK; first | (apply hK; clear hK) | (clear hK; rename ∀ st, Tri _ _ _ st _ → _ => hK; first | (apply hK; clear hK) | (clear hK; rename ∀ st, Tri _ _ _ st _ → _ => hK; first | (apply hK; clear hK) | (clear hK; rename ∀ st, Tri _ _ _ st _ → _ => hK; apply hK; clear hK)))))) | skip)
    | (intro β)
    | (rename ∀ st, Tri _ _ _ st _ → _ => hK; apply hK; clear hK))
  refine Tri.ret ⟨_, rfl, ?_⟩
  simp [upd]
  exact Wk.refl _
theorem grow0D : Does Try.prog 66 [.c (.sl true 0 none []), .c (.int .i64 0)] (.c (.sl true 0 none [])) := by
  refine Does.of_body Try.func66 rfl (by kernel_rfl) rfl rfl (by simp) ?_
  intro E
  repeat (first
    | (refine Tri.seq fun K hK => ?_)
    | (refine Tri.region ?_; simp [upd])
    | (refine Tri.draw (by kernel_rfl) (by decide +kernel) ?_; simp [upd])
    | (refine Tri.cond_true ?_ ?_; (focus simp [upd]; done))
    | (refine Tri.cond_false ?_ ?_; (focus simp [upd]; done))
    | (refine Tri.skip ?_; simp only [thenS, blockS])
    | (refine Tri.block_seq ?_)
    | (refine Tri.block_region ?_)
    | (refine Tri.block_cond ?_)
    | (refine Tri.exit ?_; simp [upd]; first | (rename ∀ st, Tri _ _ _ st _ → _ => hK; first | (apply hK; clear hK) | (clear hK; rename ∀ st, Tri _ _ _ st _ → _ => hK; first | (apply hK; clear hK) | (clear hK; rename ∀ st, Tri _ _ _ st _ → _ => hK; first | (apply hK; clear hK) | (clear hK; rename ∀ st, Tri _ _ _ st _ → _ => hK; first | (apply hK; clear hK) | (clear hK; rename ∀ st, Tri _ _ _ st _ → _ => hK; first | (apply hK; clear hK) | (clear hK; rename ∀ st, Tri _ _ _ st _ → _ => hK; apply hK; clear hK)))))) | skip)
    | (intro β)
    | (rename ∀ st, Tri _ _ _ st _ → _ => hK; apply hK; clear hK))
  refine Tri.ret ⟨_, rfl, ?_⟩
  simp [upd]
  exact Wk.refl _
theorem growA (n : Int) (hn : 0 < n) (hl : n ≤ 2147483648) : DoesB Try.prog 65 [.c (.sl true 0 none []), .c (.int .i64 n)] [] [] (fun β => (.c (.sl false 8 (some (0, β)) []), [], [(0, β, 0, 45, 8)])) := by
  refine DoesB.of_body Try.func65 rfl (by kernel_rfl) rfl rfl (by simp) (fun _ => rfl) fun E => ?_
  have hw : IntKind.i64.wrap n = n := wrap_i64 (by omega) (by omega)
  have h0 : 0 < n := hn
  have h1 : ¬ n < 0 := by omega
  have h2 : n.toNat * 64 ≤ 140737488355328 := by omega
  repeat (first
    | (refine Tri.seq fun K hK => ?_)
    | (refine Tri.region ?_; simp [upd, hw, h0, h1, h2])
    | (refine Tri.draw (by kernel_rfl) (by decide +kernel) ?_; simp [upd, hw, h0, h1, h2])
    | (refine Tri.cond_true ?_ ?_; (focus simp [upd, hw, h0, h1, h2]; done))
    | (refine Tri.cond_false ?_ ?_; (focus simp [upd, hw, h0, h1, h2]; done))
    | (refine Tri.skip ?_; simp only [thenS, blockS])
    | (refine Tri.block_seq ?_)
    | (refine Tri.block_region ?_)
    | (refine Tri.block_cond ?_)
    | (refine Tri.exit ?_; simp [upd, hw, h0, h1, h2]; first | (rename ∀ st, Tri _ _ _ st _ → _ => hK; first | (apply hK; clear hK) | (clear hK; rename ∀ st, Tri _ _ _ st _ → _ => hK; first | (apply hK; clear hK) | (clear hK; rename ∀ st, Tri _ _ _ st _ → _ => hK; first | (apply hK; clear hK) | (clear hK; rename ∀ st, Tri _ _ _ st _ → _ => hK; first | (apply hK; clear hK) | (clear hK; rename ∀ st, Tri _ _ _ st _ → _ => hK; first | (apply hK; clear hK) | (clear hK; rename ∀ st, Tri _ _ _ st _ → _ => hK; apply hK; clear hK)))))) | skip)
    | (intro β)
    | (rename ∀ st, Tri _ _ _ st _ → _ => hK; apply hK; clear hK))
  refine Tri.ret ⟨_, β, [22], rfl, ?_, trivial, ⟨by simp [upd], trivial⟩, by simp⟩
  simp [upd]
  exact Wk.rekey _ _ _ _ _ _
theorem growD (n : Int) (hn : 0 < n) (hl : n ≤ 2147483648) : DoesB Try.prog 66 [.c (.sl true 0 none []), .c (.int .i64 n)] [] [] (fun β => (.c (.sl false 3 (some (0, β)) []), [], [(0, β, 0, 62, 3)])) := by
  refine DoesB.of_body Try.func66 rfl (by kernel_rfl) rfl rfl (by simp) (fun _ => rfl) fun E => ?_
  have hw : IntKind.i64.wrap n = n := wrap_i64 (by omega) (by omega)
  have h0 : 0 < n := hn
  have h1 : ¬ n < 0 := by omega
  have h2 : n.toNat * 24 ≤ 140737488355328 := by omega
  repeat (first
    | (refine Tri.seq fun K hK => ?_)
    | (refine Tri.region ?_; simp [upd, hw, h0, h1, h2])
    | (refine Tri.draw (by kernel_rfl) (by decide +kernel) ?_; simp [upd, hw, h0, h1, h2])
    | (refine Tri.cond_true ?_ ?_; (focus simp [upd, hw, h0, h1, h2]; done))
    | (refine Tri.cond_false ?_ ?_; (focus simp [upd, hw, h0, h1, h2]; done))
    | (refine Tri.skip ?_; simp only [thenS, blockS])
    | (refine Tri.block_seq ?_)
    | (refine Tri.block_region ?_)
    | (refine Tri.block_cond ?_)
    | (refine Tri.exit ?_; simp [upd, hw, h0, h1, h2]; first | (rename ∀ st, Tri _ _ _ st _ → _ => hK; first | (apply hK; clear hK) | (clear hK; rename ∀ st, Tri _ _ _ st _ → _ => hK; first | (apply hK; clear hK) | (clear hK; rename ∀ st, Tri _ _ _ st _ → _ => hK; first | (apply hK; clear hK) | (clear hK; rename ∀ st, Tri _ _ _ st _ → _ => hK; first | (apply hK; clear hK) | (clear hK; rename ∀ st, Tri _ _ _ st _ → _ => hK; first | (apply hK; clear hK) | (clear hK; rename ∀ st, Tri _ _ _ st _ → _ => hK; apply hK; clear hK)))))) | skip)
    | (intro β)
    | (rename ∀ st, Tri _ _ _ st _ → _ => hK; apply hK; clear hK))
  refine Tri.ret ⟨_, β, [22], rfl, ?_, trivial, ⟨by simp [upd], trivial⟩, by simp⟩
  simp [upd]
  exact Wk.rekey _ _ _ _ _ _
theorem concatA (x y : List Att) (n1 n2 : Bool) (hx : x.length ≤ 1073741824) (hy : y.length ≤ 1073741824) :
    Does Try.prog 56 [.c (.sl false 1 none [[.sl n1 8 none (x.map attC)], [.sl n2 8 none (y.map attC)]])] (.c (.sl (x ++ y).isEmpty 8 none ((x ++ y).map attC))) := by
  have w1 : IntKind.i64.wrap (x.length : Int) = (x.length : Int) := wrap_i64 (by omega) (by omega)
  have w2 : IntKind.i64.wrap ((x.length : Int) + (y.length : Int)) = (x.length : Int) + (y.length : Int) := wrap_i64 (by omega) (by omega)
  have p1 : ¬ (x.length : Int) < 0 := by omega
  have p2 : ¬ (x.length : Int) + (y.length : Int) < 0 := by omega
  by_cases h0 : x.length + y.length = 0
  · have hx : x = [] := List.length_eq_zero_iff.1 (by omega)
    have hy : y = [] := List.length_eq_zero_iff.1 (by omega)
    subst hx hy
    refine Does.of_body Try.func56 rfl (by kernel_rfl) rfl rfl (by simp) ?_
    intro E
    repeat (first
      | (refine Tri.seq fun K hK => ?_)
      | (refine Tri.region ?_; simp [upd])
      | (refine Tri.draw (by kernel_rfl) (by decide +kernel) ?_; simp [upd])
      | (refine Tri.cond_true ?_ ?_; (focus simp [upd]; done))
      | (refine Tri.cond_false ?_ ?_; (focus simp [upd]; done))
      | (refine Tri.skip ?_; simp only [thenS, blockS])
      | (refine Tri.block_seq ?_)
      | (refine Tri.block_region ?_)
      | (refine Tri.block_cond ?_)
      | ((with_reducible refine CallK.pure (grow0A) (Wks.refl _) ?_); simp [upd])
      | (refine Tri.block_loop 4 ?_)
      | (refine Rounds.step ?_)
      | (refine Tri.exit ?_; simp [upd]; first | (rename ∀ st, Tri _ _ _ st _ → _ => hK; first | (apply hK; clear hK) | (clear hK; rename ∀ st, Tri _ _ _ st _ → _ => hK; first | (apply hK; clear hK) | (clear hK; rename ∀ st, Tri _ _ _ st _ → _ => hK; first | (apply hK; clear hK) | (clear hK; rename ∀ st, Tri _ _ _ st _ → _ => hK; first | (apply hK; clear hK) | (clear hK; rename ∀ st, Tri _ _ _ st _ → _ => hK; first | (apply hK; clear hK) | (clear hK; rename ∀ st, Tri _ _ _ st _ → _ => hK; apply hK; clear hK)))))) | skip)
      | (intro β)
      | (rename ∀ st, Tri _ _ _ st _ → _ => hK; apply hK; clear hK))
    refine Tri.ret ⟨_, rfl, ?_⟩
    simp [upd]
    exact Wk.nil _ _ _ _
  · have he : (x ++ y).isEmpty = false := by
      cases x with
      | nil => cases y with
        | nil => simp at h0
        | cons => rfl
      | cons => rfl
    have l := growA ((x.length : Int) + (y.length : Int)) (by omega) (by omega)
    have b1 : x.length * 64 ≤ 140737488355328 := by omega
    have b2 : (x.length + y.length) * 64 ≤ 140737488355328 := by omega
    rw [he]
    refine Does.of_body Try.func56 rfl (by kernel_rfl) rfl rfl (by simp) ?_
    intro E
    repeat (first
      | (refine Tri.seq fun K hK => ?_)
      | (refine Tri.region ?_; simp [upd, w1, w2, p1, p2, b1, b2])
      | (refine Tri.draw (by kernel_rfl) (by decide +kernel) ?_; simp [upd, w1, w2, p1, p2, b1, b2])
      | (refine Tri.cond_true ?_ ?_; (focus simp [upd, w1, w2, p1, p2, b1, b2]; done))
      | (refine Tri.cond_false ?_ ?_; (focus simp [upd, w1, w2, p1, p2, b1, b2]; done))
      | (refine Tri.skip ?_; simp only [thenS, blockS])
      | (refine Tri.block_seq ?_)
      | (refine Tri.block_region ?_)
      | (refine Tri.block_cond ?_)
      | ((with_reducible refine CallK.row0 24 l (Wks.refl _) ?_); intro β; simp [upd, w1, w2, p1, p2, b1, b2])
      | (refine Tri.block_loop 4 ?_)
      | (refine Rounds.step ?_)
      | (refine Tri.exit ?_; simp [upd, w1, w2, p1, p2, b1, b2]; first | (rename ∀ st, Tri _ _ _ st _ → _ => hK; first | (apply hK; clear hK) | (clear hK; rename ∀ st, Tri _ _ _ st _ → _ => hK; first | (apply hK; clear hK) | (clear hK; rename ∀ st, Tri _ _ _ st _ → _ => hK; first | (apply hK; clear hK) | (clear hK; rename ∀ st, Tri _ _ _ st _ → _ => hK; first | (apply hK; clear hK) | (clear hK; rename ∀ st, Tri _ _ _ st _ → _ => hK; first | (apply hK; clear hK) | (clear hK; rename ∀ st, Tri _ _ _ st _ → _ => hK; apply hK; clear hK)))))) | skip)
      | (intro β)
      | (rename ∀ st, Tri _ _ _ st _ → _ => hK; apply hK; clear hK))
    refine Tri.ret ⟨_, rfl, ?_⟩
    simp [upd]
    exact Wk.untag _ _ _ _
theorem concatD (x y : List Del) (n1 n2 : Bool) (hx : x.length ≤ 1073741824) (hy : y.length ≤ 1073741824) :
    Does Try.prog 57 [.c (.sl false 1 none [[.sl n1 3 none (x.map delC)], [.sl n2 3 none (y.map delC)]])] (.c (.sl (x ++ y).isEmpty 3 none ((x ++ y).map delC))) := by
  have w1 : IntKind.i64.wrap (x.length : Int) = (x.length : Int) := wrap_i64 (by omega) (by omega)
  have w2 : IntKind.i64.wrap ((x.length : Int) + (y.length : Int)) = (x.length : Int) + (y.length : Int) := wrap_i64 (by omega) (by omega)
  have p1 : ¬ (x.length : Int) < 0 := by omega
  have p2 : ¬ (x.length : Int) + (y.length : Int) < 0 := by omega
  by_cases h0 : x.length + y.length = 0
  · have hx : x = [] := List.length_eq_zero_iff.1 (by omega)
    have hy : y = [] := List.length_eq_zero_iff.1 (by omega)
    subst hx hy
    refine Does.of_body Try.func57 rfl (by kernel_rfl) rfl rfl (by simp) ?_
    intro E
    repeat (first
      | (refine Tri.seq fun K hK => ?_)
      | (refine Tri.region ?_; simp [upd])
      | (refine Tri.draw (by kernel_rfl) (by decide +kernel) ?_; simp [upd])
      | (refine Tri.cond_true ?_ ?_; (focus simp [upd]; done))
      | (refine Tri.cond_false ?_ ?_; (focus simp [upd]; done))
      | (refine Tri.skip ?_; simp only [thenS, blockS])
      | (refine Tri.block_seq ?_)
      | (refine Tri.block_region ?_)
      | (refine Tri.block_cond ?_)
      | ((with_reducible refine CallK.pure (grow0D) (Wks.refl _) ?_); simp [upd])
      | (refine Tri.block_loop 4 ?_)
      | (refine Rounds.step ?_)
      | (refine Tri.exit ?_; simp [upd]; first | (rename ∀ st, Tri _ _ _ st _ → _ => hK; first | (apply hK; clear hK) | (clear hK; rename ∀ st, Tri _ _ _ st _ → _ => hK; first | (apply hK; clear hK) | (clear hK; rename ∀ st, Tri _ _ _ st _ → _ => hK; first | (apply hK; clear hK) | (clear hK; rename ∀ st, Tri _ _ _ st _ → _ => hK; first | (apply hK; clear hK) | (clear hK; rename ∀ st, Tri _ _ _ st _ → _ => hK; first | (apply hK; clear hK) | (clear hK; rename ∀ st, Tri _ _ _ st _ → _ => hK; apply hK; clear hK)))))) | skip)
      | (intro β)
      | (rename ∀ st, Tri _ _ _ st _ → _ => hK; apply hK; clear hK))
    refine Tri.ret ⟨_, rfl, ?_⟩
    simp [upd]
    exact Wk.nil _ _ _ _
  · have he : (x ++ y).isEmpty = false := by
      cases x with
      | nil => cases y with
        | nil => simp at h0
        | cons => rfl
      | cons => rfl
    have l := growD ((x.length : Int) + (y.length : Int)) (by omega) (by omega)
    have b1 : x.length * 24 ≤ 140737488355328 := by omega
    have b2 : (x.length + y.length) * 24 ≤ 140737488355328 := by omega
    rw [he]
    refine Does.of_body Try.func57 rfl (by kernel_rfl) rfl rfl (by simp) ?_
    intro E
    repeat (first
      | (refine Tri.seq fun K hK => ?_)
      | (refine Tri.region ?_; simp [upd, w1, w2, p1, p2, b1, b2])
      | (refine Tri.draw (by kernel_rfl) (by decide +kernel) ?_; simp [upd, w1, w2, p1, p2, b1, b2])
      | (refine Tri.cond_true ?_ ?_; (focus simp [upd, w1, w2, p1, p2, b1, b2]; done))
      | (refine Tri.cond_false ?_ ?_; (focus simp [upd, w1, w2, p1, p2, b1, b2]; done))
      | (refine Tri.skip ?_; simp only [thenS, blockS])
      | (refine Tri.block_seq ?_)
      | (refine Tri.block_region ?_)
      | (refine Tri.block_cond ?_)
      | ((with_reducible refine CallK.row0 24 l (Wks.refl _) ?_); intro β; simp [upd, w1, w2, p1, p2, b1, b2])
      | (refine Tri.block_loop 4 ?_)
      | (refine Rounds.step ?_)
      | (refine Tri.exit ?_; simp [upd, w1, w2, p1, p2, b1, b2]; first | (rename ∀ st, Tri _ _ _ st _ → _ => hK; first | (apply hK; clear hK) | (clear hK; rename ∀ st, Tri _ _ _ st _ → _ => hK; first | (apply hK; clear hK) | (clear hK; rename ∀ st, Tri _ _ _ st _ → _ => hK; first | (apply hK; clear hK) | (clear hK; rename ∀ st, Tri _ _ _ st _ → _ => hK; first | (apply hK; clear hK) | (clear hK; rename ∀ st, Tri _ _ _ st _ → _ => hK; first | (apply hK; clear hK) | (clear hK; rename ∀ st, Tri _ _ _ st _ → _ => hK; apply hK; clear hK)))))) | skip)
      | (intro β)
      | (rename ∀ st, Tri _ _ _ st _ → _ => hK; apply hK; clear hK))
    refine Tri.ret ⟨_, rfl, ?_⟩
    simp [upd]
    exact Wk.untag _ _ _ _
end Go.Proofs.Ytcohdlochpjnjaa
end
section
open Go Go.Vm
namespace Go.Vm
/-- A call that is handed a box, under another key, and leaves it as it is. -/
theorem CallK.look {P : Program} {f : FuncId} {args av : List V} {st : St} {dst : Option Tmp} {K : St → Prop} {key b : Nat} {cs : List C} {r : V} (k : Nat)
    (h : DoesB P f av [(key, b, cs)] [] (fun _ => (r, [(key, b, cs)], []))) (hw : Wks args av) (hb : st.bx k = some (b, cs)) (hK : K (st.put dst r)) : CallK P false f args st dst K := by
  refine CallK.boxed h [k] [] [] (fun _ => r) hw ⟨hb, trivial⟩ trivial (by simp) (by simp) (fun _ => Wk.refl _) (fun _ => rfl) (by simp) fun _ => ?_
  simp only [St.setBxs, St.clrRws, St.setRws]
  rw [upd_same _ _ _ hb]
  exact hK
end Go.Vm
namespace Go.Proofs.Ytcohdlochpjnjaa
set_option maxRecDepth 100000
set_option maxHeartbeats 4000000
set_option linter.unusedSimpArgs false
/-- Where a list first has what is looked for; -1 if nowhere. -/
def idxI {α : Type} (p : α → Bool) (l : List α) : Int := match l.findIdx? p with
  | some i => (i : Nat)
  | none => -1
theorem idxI_at {α : Type} {p : α → Bool} {l : List α} {k : Nat} (hk : k < l.length) (h : p l[k] = true) (hb : ∀ j (_ : j < l.length), j < k → p l[j] = false) : idxI p l = (k : Nat) := by
  have : l.findIdx? p = some k := List.findIdx?_eq_some_iff_getElem.2 ⟨hk, h, fun j hj => by simp [hb j (by omega) hj]⟩
  simp [idxI, this]
theorem idxI_none {α : Type} {p : α → Bool} {l : List α} (hb : ∀ j (_ : j < l.length), p l[j] = false) : idxI p l = -1 := by
  have : l.findIdx? p = none := List.findIdx?_eq_none_iff.2 fun x hx => by
    obtain ⟨j, hj, rfl⟩ := List.getElem_of_mem hx
    exact hb j hj
  simp [idxI, this]
theorem idxI_any {α : Type} (p : α → Bool) (l : List α) : decide (0 ≤ idxI p l) = l.any p := by
  unfold idxI
  cases h : l.findIdx? p with
  | none =>
    have := List.findIdx?_eq_none_iff.1 h
    have e : l.any p = false := by
      rw [List.any_eq_false]
      intro x hx
      simp [this x hx]
    simp [e]
  | some i =>
    obtain ⟨h1, h2, _⟩ := List.findIdx?_eq_some_iff_getElem.1 h
    have e : l.any p = true := List.any_eq_true.2 ⟨_, List.getElem_mem h1, h2⟩
    simp [e]
attribute [local irreducible] Tri Does DoesB Rounds check sameB idxI
theorem cloA (x : Att) (b : Nat) (s : Int) (G H : C) : DoesB Try.prog 53 [.agg (attC x), .c (.box 100 b 0)] [(100, b, [.int .i64 s, G, H])] [] (fun _ => (.c (.bool (decide (x.slot < s))), [(100, b, [.int .i64 s, G, H])], [])) := by
  refine DoesB.of_body Try.func53 rfl (by kernel_rfl) rfl rfl (by simp) (fun _ => rfl) fun E => ?_
  repeat (first
    | (refine Tri.seq fun K hK => ?_)
    | (refine Tri.region ?_; simp [upd])
    | (refine Tri.draw (by kernel_rfl) (by decide +kernel) ?_; simp [upd])
    | (refine Tri.cond_true ?_ ?_; (focus simp [upd]; done))
    | (refine Tri.cond_false ?_ ?_; (focus simp [upd]; done))
    | (refine Tri.skip ?_; simp only [thenS, blockS])
    | (refine Tri.block_seq ?_)
    | (refine Tri.block_region ?_)
    | (refine Tri.block_cond ?_)
    | (refine Tri.exit ?_; simp [upd]; first | (rename ∀ st, Tri _ _ _ st _ → _ => hK; first | (apply hK; clear hK) | (clear hK; rename ∀ st, Tri _ _ _ st _ → _ => hK; first | (apply hK; clear hK) | (clear hK; rename ∀ st, Tri _ _ _ st _ → _ => hK; first | (apply hK; clear hK) | (clear hK; rename ∀ st, Tri _ _ _ st _ → _ => hK; first | (apply hK; clear hK) | (clear hK; rename ∀ st, Tri _ _ _ st _ → _ => hK; first | (apply hK; clear hK) | (clear hK; rename ∀ st, Tri _ _ _ st _ → _ => hK; apply hK; clear hK)))))) | skip)
    | (intro β)
    | (rename ∀ st, Tri _ _ _ st _ → _ => hK; apply hK; clear hK))
  refine Tri.ret ⟨_, 0, [], rfl, ?_, ?_, trivial, by simp⟩
  · simp [upd]
    exact Wk.refl _
  · simp [upd]
theorem cloD (x : Del) (b : Nat) (s : Int) (G H : C) : DoesB Try.prog 55 [.agg (delC x), .c (.box 100 b 0)] [(100, b, [.int .i64 s, G, H])] [] (fun _ => (.c (.bool (decide (x.slot < s))), [(100, b, [.int .i64 s, G, H])], [])) := by
  refine DoesB.of_body Try.func55 rfl (by kernel_rfl) rfl rfl (by simp) (fun _ => rfl) fun E => ?_
  repeat (first
    | (refine Tri.seq fun K hK => ?_)
    | (refine Tri.region ?_; simp [upd])
    | (refine Tri.draw (by kernel_rfl) (by decide +kernel) ?_; simp [upd])
    | (refine Tri.cond_true ?_ ?_; (focus simp [upd]; done))
    | (refine Tri.cond_false ?_ ?_; (focus simp [upd]; done))
    | (refine Tri.skip ?_; simp only [thenS, blockS])
    | (refine Tri.block_seq ?_)
    | (refine Tri.block_region ?_)
    | (refine Tri.block_cond ?_)
    | (refine Tri.exit ?_; simp [upd]; first | (rename ∀ st, Tri _ _ _ st _ → _ => hK; first | (apply hK; clear hK) | (clear hK; rename ∀ st, Tri _ _ _ st _ → _ => hK; first | (apply hK; clear hK) | (clear hK; rename ∀ st, Tri _ _ _ st _ → _ => hK; first | (apply hK; clear hK) | (clear hK; rename ∀ st, Tri _ _ _ st _ → _ => hK; first | (apply hK; clear hK) | (clear hK; rename ∀ st, Tri _ _ _ st _ → _ => hK; first | (apply hK; clear hK) | (clear hK; rename ∀ st, Tri _ _ _ st _ → _ => hK; apply hK; clear hK)))))) | skip)
    | (intro β)
    | (rename ∀ st, Tri _ _ _ st _ → _ => hK; apply hK; clear hK))
  refine Tri.ret ⟨_, 0, [], rfl, ?_, ?_, trivial, by simp⟩
  · simp [upd]
    exact Wk.refl _
  · simp [upd]
theorem indexA (f : FuncId) (p : Att → Bool) (b : Nat) (cs : List C) (h : ∀ x, DoesB Try.prog f [.agg (attC x), .c (.box 100 b 0)] [(100, b, cs)] [] (fun _ => (.c (.bool (p x)), [(100, b, cs)], []))) (l : List Att) (nl : Bool) (hl : l.length ≤ 1073741824) :
    DoesB Try.prog 58 [.c (.sl nl 8 none (l.map attC)), .c (.fn f [.box 100 b 0])] [(100, b, cs)] [] (fun _ => (.c (.int .i64 (idxI p l)), [(100, b, cs)], [])) := by
  refine DoesB.of_body Try.func58 rfl (by kernel_rfl) rfl rfl (by simp) (fun _ => rfl) fun E => ?_
  repeat (first
    | (refine Tri.seq fun K hK => ?_)
    | (refine Tri.region ?_; simp [upd])
    | (refine Tri.draw (by kernel_rfl) (by decide +kernel) ?_; simp [upd])
    | (refine Tri.cond_true ?_ ?_; (focus simp [upd]; done))
    | (refine Tri.cond_false ?_ ?_; (focus simp [upd]; done))
    | (refine Tri.skip ?_; simp only [thenS, blockS])
    | (refine Tri.block_seq ?_)
    | (refine Tri.block_region ?_)
    | (refine Tri.block_cond ?_)
    | (refine Tri.exit ?_; simp [upd]; first | (rename ∀ st, Tri _ _ _ st _ → _ => hK; first | (apply hK; clear hK) | (clear hK; rename ∀ st, Tri _ _ _ st _ → _ => hK; first | (apply hK; clear hK) | (clear hK; rename ∀ st, Tri _ _ _ st _ → _ => hK; first | (apply hK; clear hK) | (clear hK; rename ∀ st, Tri _ _ _ st _ → _ => hK; first | (apply hK; clear hK) | (clear hK; rename ∀ st, Tri _ _ _ st _ → _ => hK; first | (apply hK; clear hK) | (clear hK; rename ∀ st, Tri _ _ _ st _ → _ => hK; apply hK; clear hK)))))) | skip)
    | (intro β)
    | (rename ∀ st, Tri _ _ _ st _ → _ => hK; apply hK; clear hK))
  refine Tri.range 8 7 9 18 19 rfl rfl l.length (fun k st => st.sl 0 = .c (.sl nl 8 none (l.map attC)) ∧ st.sl 1 = .c (.fn f [.box 100 b 0]) ∧ st.bx 100 = some (b, cs) ∧ ∀ j (_ : j < l.length), j < k → p l[j] = false) (by simp) (by omega) ?_ rfl (by simp [upd]) (by simp [upd]) ?_ ?_ ?_
  · rintro k st t v ht ⟨a0, a1, a2, hb⟩
    rcases ht with rfl | rfl | rfl <;> exact ⟨by simpa [upd] using a0, by simpa [upd] using a1, by simpa using a2, hb⟩
  · exact ⟨by simp [upd], by simp [upd], by simp, fun j _ h => by omega⟩
  · rintro k st hk ⟨a0, a1, a2, hb⟩ hn h8 h7
    have g := h l[k]
    cases hp : p l[k]
    case true =>
      rw [idxI_at hk hp hb]
      rw [hp] at g
      repeat (first
        | (refine Tri.seq fun K hK => ?_)
        | (refine Tri.region ?_; simp [upd, hn, a0, a1, a2, h8, h7, hk])
        | (refine Tri.draw (by kernel_rfl) (by decide +kernel) ?_; simp [upd, hn, a0, a1, a2, h8, h7, hk])
        | (refine Tri.cond_true ?_ ?_; (focus simp [upd, hn, a0, a1, a2, h8, h7, hk]; done))
        | (refine Tri.cond_false ?_ ?_; (focus simp [upd, hn, a0, a1, a2, h8, h7, hk]; done))
        | (refine Tri.skip ?_; simp only [thenS, blockS])
        | (refine Tri.block_seq ?_)
        | (refine Tri.block_region ?_)
        | (refine Tri.block_cond ?_)
        | (refine CallK.look 100 g (Wks.refl _) ?_ ?_; (focus (simp [upd, a2]; done)); simp [upd, hn, a0, a1, a2, h8, h7, hk])
        | (refine Tri.exit ?_; simp [upd, hn, a0, a1, a2, h8, h7, hk]; first | (rename ∀ st, Tri _ _ _ st _ → _ => hK; first | (apply hK; clear hK) | (clear hK; rename ∀ st, Tri _ _ _ st _ → _ => hK; first | (apply hK; clear hK) | (clear hK; rename ∀ st, Tri _ _ _ st _ → _ => hK; first | (apply hK; clear hK) | (clear hK; rename ∀ st, Tri _ _ _ st _ → _ => hK; first | (apply hK; clear hK) | (clear hK; rename ∀ st, Tri _ _ _ st _ → _ => hK; first | (apply hK; clear hK) | (clear hK; rename ∀ st, Tri _ _ _ st _ → _ => hK; apply hK; clear hK)))))) | skip)
        | (intro β)
        | (rename ∀ st, Tri _ _ _ st _ → _ => hK; apply hK; clear hK))
      refine Tri.ret ⟨_, 0, [], rfl, ?_, ?_, trivial, by simp⟩
      · simp [upd]
        exact Wk.refl _
      · simp [upd, a2]
    rw [hp] at g
    repeat (first
      | (refine Tri.seq fun K hK => ?_)
      | (refine Tri.region ?_; simp [upd, hn, a0, a1, a2, h8, h7, hk])
      | (refine Tri.draw (by kernel_rfl) (by decide +kernel) ?_; simp [upd, hn, a0, a1, a2, h8, h7, hk])
      | (refine Tri.cond_true ?_ ?_; (focus simp [upd, hn, a0, a1, a2, h8, h7, hk]; done))
      | (refine Tri.cond_false ?_ ?_; (focus simp [upd, hn, a0, a1, a2, h8, h7, hk]; done))
      | (refine Tri.skip ?_; simp only [thenS, blockS])
      | (refine Tri.block_seq ?_)
      | (refine Tri.block_region ?_)
      | (refine Tri.block_cond ?_)
      | (refine CallK.look 100 g (Wks.refl _) ?_ ?_; (focus (simp [upd, a2]; done)); simp [upd, hn, a0, a1, a2, h8, h7, hk])
      | (refine Tri.exit ?_; simp [upd, hn, a0, a1, a2, h8, h7, hk]; first | (rename ∀ st, Tri _ _ _ st _ → _ => hK; first | (apply hK; clear hK) | (clear hK; rename ∀ st, Tri _ _ _ st _ → _ => hK; first | (apply hK; clear hK) | (clear hK; rename ∀ st, Tri _ _ _ st _ → _ => hK; first | (apply hK; clear hK) | (clear hK; rename ∀ st, Tri _ _ _ st _ → _ => hK; first | (apply hK; clear hK) | (clear hK; rename ∀ st, Tri _ _ _ st _ → _ => hK; first | (apply hK; clear hK) | (clear hK; rename ∀ st, Tri _ _ _ st _ → _ => hK; apply hK; clear hK)))))) | skip)
      | (intro β)
      | (rename ∀ st, Tri _ _ _ st _ → _ => hK; apply hK; clear hK))
    try simp [upd, h8, h7, a0, a1, a2]
    intro j hj hjk
    rcases Nat.lt_succ_iff_lt_or_eq.1 hjk with h' | rfl
    · exact hb j hj h'
    · exact hp
  · rintro st ⟨a0, a1, a2, hb⟩ hn
    rename ∀ st, Tri _ _ _ st _ → _ => hK
    apply hK
    rw [idxI_none (p := p) (l := l) fun j hj => hb j hj hj]
    repeat (first
      | (refine Tri.seq fun K hK => ?_)
      | (refine Tri.region ?_; simp [upd, hn, a2])
      | (refine Tri.draw (by kernel_rfl) (by decide +kernel) ?_; simp [upd, hn, a2])
      | (refine Tri.cond_true ?_ ?_; (focus simp [upd, hn, a2]; done))
      | (refine Tri.cond_false ?_ ?_; (focus simp [upd, hn, a2]; done))
      | (refine Tri.skip ?_; simp only [thenS, blockS])
      | (refine Tri.block_seq ?_)
      | (refine Tri.block_region ?_)
      | (refine Tri.block_cond ?_)
      | (refine Tri.exit ?_; simp [upd, hn, a2]; first | (rename ∀ st, Tri _ _ _ st _ → _ => hK; first | (apply hK; clear hK) | (clear hK; rename ∀ st, Tri _ _ _ st _ → _ => hK; first | (apply hK; clear hK) | (clear hK; rename ∀ st, Tri _ _ _ st _ → _ => hK; first | (apply hK; clear hK) | (clear hK; rename ∀ st, Tri _ _ _ st _ → _ => hK; first | (apply hK; clear hK) | (clear hK; rename ∀ st, Tri _ _ _ st _ → _ => hK; first | (apply hK; clear hK) | (clear hK; rename ∀ st, Tri _ _ _ st _ → _ => hK; apply hK; clear hK)))))) | skip)
      | (intro β)
      | (rename ∀ st, Tri _ _ _ st _ → _ => hK; apply hK; clear hK))
    refine Tri.ret ⟨_, 0, [], rfl, ?_, ?_, trivial, by simp⟩
    · simp [upd]
      exact Wk.refl _
    · simp [upd, a2]
theorem indexD (f : FuncId) (p : Del → Bool) (b : Nat) (cs : List C) (h : ∀ x, DoesB Try.prog f [.agg (delC x), .c (.box 100 b 0)] [(100, b, cs)] [] (fun _ => (.c (.bool (p x)), [(100, b, cs)], []))) (l : List Del) (nl : Bool) (hl : l.length ≤ 1073741824) :
    DoesB Try.prog 59 [.c (.sl nl 3 none (l.map delC)), .c (.fn f [.box 100 b 0])] [(100, b, cs)] [] (fun _ => (.c (.int .i64 (idxI p l)), [(100, b, cs)], [])) := by
  refine DoesB.of_body Try.func59 rfl (by kernel_rfl) rfl rfl (by simp) (fun _ => rfl) fun E => ?_
  repeat (first
    | (refine Tri.seq fun K hK => ?_)
    | (refine Tri.region ?_; simp [upd])
    | (refine Tri.draw (by kernel_rfl) (by decide +kernel) ?_; simp [upd])
    | (refine Tri.cond_true ?_ ?_; (focus simp [upd]; done))
    | (refine Tri.cond_false ?_ ?_; (focus simp [upd]; done))
    | (refine Tri.skip ?_; simp only [thenS, blockS])
    | (refine Tri.block_seq ?_)
    | (refine Tri.block_region ?_)
    | (refine Tri.block_cond ?_)
    | (refine Tri.exit ?_; simp [upd]; first | (rename ∀ st, Tri _ _ _ st _ → _ => hK; first | (apply hK; clear hK) | (clear hK; rename ∀ st, Tri _ _ _ st _ → _ => hK; first | (apply hK; clear hK) | (clear hK; rename ∀ st, Tri _ _ _ st _ → _ => hK; first | (apply hK; clear hK) | (clear hK; rename ∀ st, Tri _ _ _ st _ → _ => hK; first | (apply hK; clear hK) | (clear hK; rename ∀ st, Tri _ _ _ st _ → _ => hK; first | (apply hK; clear hK) | (clear hK; rename ∀ st, Tri _ _ _ st _ → _ => hK; apply hK; clear hK)))))) | skip)
    | (intro β)
    | (rename ∀ st, Tri _ _ _ st _ → _ => hK; apply hK; clear hK))
  refine Tri.range 8 7 9 18 19 rfl rfl l.length (fun k st => st.sl 0 = .c (.sl nl 3 none (l.map delC)) ∧ st.sl 1 = .c (.fn f [.box 100 b 0]) ∧ st.bx 100 = some (b, cs) ∧ ∀ j (_ : j < l.length), j < k → p l[j] = false) (by simp) (by omega) ?_ rfl (by simp [upd]) (by simp [upd]) ?_ ?_ ?_
  · rintro k st t v ht ⟨a0, a1, a2, hb⟩
    rcases ht with rfl | rfl | rfl <;> exact ⟨by simpa [upd] using a0, by simpa [upd] using a1, by simpa using a2, hb⟩
  · exact ⟨by simp [upd], by simp [upd], by simp, fun j _ h => by omega⟩
  · rintro k st hk ⟨a0, a1, a2, hb⟩ hn h8 h7
    have g := h l[k]
    cases hp : p l[k]
    case true =>
      rw [idxI_at hk hp hb]
      rw [hp] at g
      repeat (first
        | (refine Tri.seq fun K hK => ?_)
        | (refine Tri.region ?_; simp [upd, hn, a0, a1, a2, h8, h7, hk])
        | (refine Tri.draw (by kernel_rfl) (by decide +kernel) ?_; simp [upd, hn, a0, a1, a2, h8, h7, hk])
        | (refine Tri.cond_true ?_ ?_; (focus simp [upd, hn, a0, a1, a2, h8, h7, hk]; done))
        | (refine Tri.cond_false ?_ ?_; (focus simp [upd, hn, a0, a1, a2, h8, h7, hk]; done))
        | (refine Tri.skip ?_; simp only [thenS, blockS])
        | (refine Tri.block_seq ?_)
        | (refine Tri.block_region ?_)
        | (refine Tri.block_cond ?_)
        | (refine CallK.look 100 g (Wks.refl _) ?_ ?_; (focus (simp [upd, a2]; done)); simp [upd, hn, a0, a1, a2, h8, h7, hk])
        | (refine Tri.exit ?_; simp [upd, hn, a0, a1, a2, h8, h7, hk]; first | (rename ∀ st, Tri _ _ _ st _ → _ => hK; first | (apply hK; clear hK) | (clear hK; rename ∀ st, Tri _ _ _ st _ → _ => hK; first | (apply hK; clear hK) | (clear hK; rename ∀ st, Tri _ _ _ st _ → _ => hK; first | (apply hK; clear hK) | (clear hK; rename ∀ st, Tri _ _ _ st _ → _ => hK; first | (apply hK; clear hK) | (clear hK; rename ∀ st, Tri _ _ _ st _ → _ => hK; first | (apply hK; clear hK) | (clear hK; rename ∀ st, Tri _ _ _ st _ → _ => hK; apply hK; clear hK)))))) | skip)
        | (intro β)
        | (rename ∀ st, Tri _ _ _ st _ → _ => hK; apply hK; clear hK))
      refine Tri.ret ⟨_, 0, [], rfl, ?_, ?_, trivial, by simp⟩
      · simp [upd]
        exact Wk.refl _
      · simp [upd, a2]
    rw [hp] at g
    repeat (first
      | (refine Tri.seq fun K hK => ?_)
      | (refine Tri.region ?_; simp [upd, hn, a0, a1, a2, h8, h7, hk])
      | (refine Tri.draw (by kernel_rfl) (by decide +kernel) ?_; simp [upd, hn, a0, a1, a2, h8, h7, hk])
      | (refine Tri.cond_true ?_ ?_; (focus simp [upd, hn, a0, a1, a2, h8, h7, hk]; done))
      | (refine Tri.cond_false ?_ ?_; (focus simp [upd, hn, a0, a1, a2, h8, h7, hk]; done))
      | (refine Tri.skip ?_; simp only [thenS, blockS])
      | (refine Tri.block_seq ?_)
      | (refine Tri.block_region ?_)
      | (refine Tri.block_cond ?_)
      | (refine CallK.look 100 g (Wks.refl _) ?_ ?_; (focus (simp [upd, a2]; done)); simp [upd, hn, a0, a1, a2, h8, h7, hk])
      | (refine Tri.exit ?_; simp [upd, hn, a0, a1, a2, h8, h7, hk]; first | (rename ∀ st, Tri _ _ _ st _ → _ => hK; first | (apply hK; clear hK) | (clear hK; rename ∀ st, Tri _ _ _ st _ → _ => hK; first | (apply hK; clear hK) | (clear hK; rename ∀ st, Tri _ _ _ st _ → _ => hK; first | (apply hK; clear hK) | (clear hK; rename ∀ st, Tri _ _ _ st _ → _ => hK; first | (apply hK; clear hK) | (clear hK; rename ∀ st, Tri _ _ _ st _ → _ => hK; first | (apply hK; clear hK) | (clear hK; rename ∀ st, Tri _ _ _ st _ → _ => hK; apply hK; clear hK)))))) | skip)
      | (intro β)
      | (rename ∀ st, Tri _ _ _ st _ → _ => hK; apply hK; clear hK))
    try simp [upd, h8, h7, a0, a1, a2]
    intro j hj hjk
    rcases Nat.lt_succ_iff_lt_or_eq.1 hjk with h' | rfl
    · exact hb j hj h'
    · exact hp
  · rintro st ⟨a0, a1, a2, hb⟩ hn
    rename ∀ st, Tri _ _ _ st _ → _ => hK
    apply hK
    rw [idxI_none (p := p) (l := l) fun j hj => hb j hj hj]
    repeat (first
      | (refine Tri.seq fun K hK => ?_)
      | (refine Tri.region ?_; simp [upd, hn, a2])
      | (refine Tri.draw (by kernel_rfl) (by decide +kernel) ?_; simp [upd, hn, a2])
      | (refine Tri.cond_true ?_ ?_; (focus simp [upd, hn, a2]; done))
      | (refine Tri.cond_false ?_ ?_; (focus simp [upd, hn, a2]; done))
      | (refine Tri.skip ?_; simp only [thenS, blockS])
      | (refine Tri.block_seq ?_)
      | (refine Tri.block_region ?_)
      | (refine Tri.block_cond ?_)
      | (refine Tri.exit ?_; simp [upd, hn, a2]; first | (rename ∀ st, Tri _ _ _ st _ → _ => hK; first | (apply hK; clear hK) | (clear hK; rename ∀ st, Tri _ _ _ st _ → _ => hK; first | (apply hK; clear hK) | (clear hK; rename ∀ st, Tri _ _ _ st _ → _ => hK; first | (apply hK; clear hK) | (clear hK; rename ∀ st, Tri _ _ _ st _ → _ => hK; first | (apply hK; clear hK) | (clear hK; rename ∀ st, Tri _ _ _ st _ → _ => hK; first | (apply hK; clear hK) | (clear hK; rename ∀ st, Tri _ _ _ st _ → _ => hK; apply hK; clear hK)))))) | skip)
      | (intro β)
      | (rename ∀ st, Tri _ _ _ st _ → _ => hK; apply hK; clear hK))
    refine Tri.ret ⟨_, 0, [], rfl, ?_, ?_, trivial, by simp⟩
    · simp [upd]
      exact Wk.refl _
    · simp [upd, a2]
theorem containsA (f : FuncId) (p : Att → Bool) (b : Nat) (cs : List C) (h : ∀ x, DoesB Try.prog f [.agg (attC x), .c (.box 100 b 0)] [(100, b, cs)] [] (fun _ => (.c (.bool (p x)), [(100, b, cs)], []))) (l : List Att) (nl : Bool) (hl : l.length ≤ 1073741824) :
    DoesB Try.prog 52 [.c (.sl nl 8 none (l.map attC)), .c (.fn f [.box 100 b 0])] [(100, b, cs)] [] (fun _ => (.c (.bool (l.any p)), [(100, b, cs)], [])) := by
  have g := indexA f p b cs h l nl hl
  rw [← idxI_any]
  refine DoesB.of_body Try.func52 rfl (by kernel_rfl) rfl rfl (by simp) (fun _ => rfl) fun E => ?_
  repeat (first
    | (refine Tri.seq fun K hK => ?_)
    | (refine Tri.region ?_; simp [upd])
    | (refine Tri.draw (by kernel_rfl) (by decide +kernel) ?_; simp [upd])
    | (refine Tri.cond_true ?_ ?_; (focus simp [upd]; done))
    | (refine Tri.cond_false ?_ ?_; (focus simp [upd]; done))
    | (refine Tri.skip ?_; simp only [thenS, blockS])
    | (refine Tri.block_seq ?_)
    | (refine Tri.block_region ?_)
    | (refine Tri.block_cond ?_)
    | (refine CallK.look 100 g (Wks.refl _) ?_ ?_; (focus (simp [upd]; done)); simp [upd])
    | (refine Tri.exit ?_; simp [upd]; first | (rename ∀ st, Tri _ _ _ st _ → _ => hK; first | (apply hK; clear hK) | (clear hK; rename ∀ st, Tri _ _ _ st _ → _ => hK; first | (apply hK; clear hK) | (clear hK; rename ∀ st, Tri _ _ _ st _ → _ => hK; first | (apply hK; clear hK) | (clear hK; rename ∀ st, Tri _ _ _ st _ → _ => hK; first | (apply hK; clear hK) | (clear hK; rename ∀ st, Tri _ _ _ st _ → _ => hK; first | (apply hK; clear hK) | (clear hK; rename ∀ st, Tri _ _ _ st _ → _ => hK; apply hK; clear hK)))))) | skip)
    | (intro β)
    | (rename ∀ st, Tri _ _ _ st _ → _ => hK; apply hK; clear hK))
  refine Tri.ret ⟨_, 0, [], rfl, ?_, ?_, trivial, by simp⟩
  · simp [upd]
    exact Wk.refl _
  · simp [upd]
theorem containsD (f : FuncId) (p : Del → Bool) (b : Nat) (cs : List C) (h : ∀ x, DoesB Try.prog f [.agg (delC x), .c (.box 100 b 0)] [(100, b, cs)] [] (fun _ => (.c (.bool (p x)), [(100, b, cs)], []))) (l : List Del) (nl : Bool) (hl : l.length ≤ 1073741824) :
    DoesB Try.prog 54 [.c (.sl nl 3 none (l.map delC)), .c (.fn f [.box 100 b 0])] [(100, b, cs)] [] (fun _ => (.c (.bool (l.any p)), [(100, b, cs)], [])) := by
  have g := indexD f p b cs h l nl hl
  rw [← idxI_any]
  refine DoesB.of_body Try.func54 rfl (by kernel_rfl) rfl rfl (by simp) (fun _ => rfl) fun E => ?_
  repeat (first
    | (refine Tri.seq fun K hK => ?_)
    | (refine Tri.region ?_; simp [upd])
    | (refine Tri.draw (by kernel_rfl) (by decide +kernel) ?_; simp [upd])
    | (refine Tri.cond_true ?_ ?_; (focus simp [upd]; done))
    | (refine Tri.cond_false ?_ ?_; (focus simp [upd]; done))
    | (refine Tri.skip ?_; simp only [thenS, blockS])
    | (refine Tri.block_seq ?_)
    | (refine Tri.block_region ?_)
    | (refine Tri.block_cond ?_)
    | (refine CallK.look 100 g (Wks.refl _) ?_ ?_; (focus (simp [upd]; done)); simp [upd])
    | (refine Tri.exit ?_; simp [upd]; first | (rename ∀ st, Tri _ _ _ st _ → _ => hK; first | (apply hK; clear hK) | (clear hK; rename ∀ st, Tri _ _ _ st _ → _ => hK; first | (apply hK; clear hK) | (clear hK; rename ∀ st, Tri _ _ _ st _ → _ => hK; first | (apply hK; clear hK) | (clear hK; rename ∀ st, Tri _ _ _ st _ → _ => hK; first | (apply hK; clear hK) | (clear hK; rename ∀ st, Tri _ _ _ st _ → _ => hK; first | (apply hK; clear hK) | (clear hK; rename ∀ st, Tri _ _ _ st _ → _ => hK; apply hK; clear hK)))))) | skip)
    | (intro β)
    | (rename ∀ st, Tri _ _ _ st _ → _ => hK; apply hK; clear hK))
  refine Tri.ret ⟨_, 0, [], rfl, ?_, ?_, trivial, by simp⟩
  · simp [upd]
    exact Wk.refl _
  · simp [upd]
end Go.Proofs.Ytcohdlochpjnjaa
end
section
open Go Go.Vm
namespace Go.Proofs.Ytcohdlochpjnjaa
set_option maxRecDepth 100000
set_option maxHeartbeats 4000000
set_option linter.unusedSimpArgs false
theorem orI_cmp_ne {x y : Int} (l : List Int) (h : (x == y) = false) : decide (orI (cmpI x y :: l) < 0) = decide (x < y) := by
  have := orI_cmp x y l
  simp only [beq_eq_false_iff_ne, ne_eq] at h
  rw [decide_eq_decide, this]
  omega
theorem orI_cmp_eq {x y : Int} (l : List Int) (h : (x == y) = true) : orI (cmpI x y :: l) = orI l := by
  simp only [beq_iff_eq] at h
  rw [orI, if_pos ((cmpI_eq x y).2 h)]
attribute [local irreducible] Tri Does DoesB Rounds check sameB
def inB (n lo hi : Int) : Bool := decide (lo ≤ n) && decide (n ≤ hi)
theorem in_does (n lo hi : Int) : Does Try.prog 48 [.c (.int .i64 n), .c (.int .i64 lo), .c (.int .i64 hi)] (.c (.bool (inB n lo hi))) := by
  refine Does.of_body Try.func48 rfl (by kernel_rfl) rfl rfl (by simp) ?_
  intro E
  unfold inB
  by_cases h1 : lo ≤ n
  · repeat (first
      | (refine Tri.seq fun K hK => ?_)
      | (refine Tri.region ?_; simp [upd, h1])
      | (refine Tri.draw (by kernel_rfl) (by decide +kernel) ?_; simp [upd, h1])
      | (refine Tri.cond_true ?_ ?_; (focus simp [upd, h1]; done))
      | (refine Tri.cond_false ?_ ?_; (focus simp [upd, h1]; done))
      | (refine Tri.skip ?_; simp only [thenS, blockS])
      | (refine Tri.block_seq ?_)
      | (refine Tri.block_region ?_)
      | (refine Tri.block_cond ?_)
      | (refine Tri.exit ?_; simp [upd, h1]; first | (rename ∀ st, Tri _ _ _ st _ → _ => hK; first | (apply hK; clear hK) | (clear hK; rename ∀ st, Tri _ _ _ st _ → _ => hK; first | (apply hK; clear hK) | (clear hK; rename ∀ st, Tri _ _ _ st _ → _ => hK; first | (apply hK; clear hK) | (clear hK; rename ∀ st, Tri _ _ _ st _ → _ => hK; first | (apply hK; clear hK) | (clear hK; rename ∀ st, Tri _ _ _ st _ → _ => hK; first | (apply hK; clear hK) | (clear hK; rename ∀ st, Tri _ _ _ st _ → _ => hK; apply hK; clear hK)))))) | skip)
      | (intro β)
      | (rename ∀ st, Tri _ _ _ st _ → _ => hK; apply hK; clear hK))
    refine Tri.ret ⟨_, rfl, ?_⟩
    simp [upd, h1]
    exact Wk.refl _
  · repeat (first
      | (refine Tri.seq fun K hK => ?_)
      | (refine Tri.region ?_; simp [upd, h1])
      | (refine Tri.draw (by kernel_rfl) (by decide +kernel) ?_; simp [upd, h1])
      | (refine Tri.cond_true ?_ ?_; (focus simp [upd, h1]; done))
      | (refine Tri.cond_false ?_ ?_; (focus simp [upd, h1]; done))
      | (refine Tri.skip ?_; simp only [thenS, blockS])
      | (refine Tri.block_seq ?_)
      | (refine Tri.block_region ?_)
      | (refine Tri.block_cond ?_)
      | (refine Tri.exit ?_; simp [upd, h1]; first | (rename ∀ st, Tri _ _ _ st _ → _ => hK; first | (apply hK; clear hK) | (clear hK; rename ∀ st, Tri _ _ _ st _ → _ => hK; first | (apply hK; clear hK) | (clear hK; rename ∀ st, Tri _ _ _ st _ → _ => hK; first | (apply hK; clear hK) | (clear hK; rename ∀ st, Tri _ _ _ st _ → _ => hK; first | (apply hK; clear hK) | (clear hK; rename ∀ st, Tri _ _ _ st _ → _ => hK; first | (apply hK; clear hK) | (clear hK; rename ∀ st, Tri _ _ _ st _ → _ => hK; apply hK; clear hK)))))) | skip)
      | (intro β)
      | (rename ∀ st, Tri _ _ _ st _ → _ => hK; apply hK; clear hK))
    refine Tri.ret ⟨_, rfl, ?_⟩
    simp [upd, h1]
    exact Wk.refl _
def keysC (a : Att) : List C := [.int .i64 a.slot, .int .i64 a.cslot, .int .i64 a.off, .int .i64 a.frm, .int .i64 a.to, .int .i64 a.flow]
theorem keys_does (a : Att) : Does Try.prog 64 [.agg (attC a)] (.agg (keysC a)) := by
  refine Does.of_body Try.func64 rfl (by kernel_rfl) rfl rfl (by simp) ?_
  intro E
  repeat (first
    | (refine Tri.seq fun K hK => ?_)
    | (refine Tri.region ?_; simp [upd])
    | (refine Tri.draw (by kernel_rfl) (by decide +kernel) ?_; simp [upd])
    | (refine Tri.cond_true ?_ ?_; (focus simp [upd]; done))
    | (refine Tri.cond_false ?_ ?_; (focus simp [upd]; done))
    | (refine Tri.skip ?_; simp only [thenS, blockS])
    | (refine Tri.block_seq ?_)
    | (refine Tri.block_region ?_)
    | (refine Tri.block_cond ?_)
    | (refine Tri.exit ?_; simp [upd]; first | (rename ∀ st, Tri _ _ _ st _ → _ => hK; first | (apply hK; clear hK) | (clear hK; rename ∀ st, Tri _ _ _ st _ → _ => hK; first | (apply hK; clear hK) | (clear hK; rename ∀ st, Tri _ _ _ st _ → _ => hK; first | (apply hK; clear hK) | (clear hK; rename ∀ st, Tri _ _ _ st _ → _ => hK; first | (apply hK; clear hK) | (clear hK; rename ∀ st, Tri _ _ _ st _ → _ => hK; first | (apply hK; clear hK) | (clear hK; rename ∀ st, Tri _ _ _ st _ → _ => hK; apply hK; clear hK)))))) | skip)
    | (intro β)
    | (rename ∀ st, Tri _ _ _ st _ → _ => hK; apply hK; clear hK))
  exact Tri.ret ⟨.agg (keysC a), by simp [upd, keysC], Wk.refl _⟩
theorem less_does (a b : Att) : Does Try.prog 50 [.agg (attC a), .agg (attC b)] (.c (.bool (decide (cmpA a b < 0)))) := by
  refine Does.of_body Try.func50 rfl (by kernel_rfl) rfl rfl (by simp) ?_
  intro E
  have k1 := keys_does a
  have k2 := keys_does b
  unfold cmpA
  simp only [keysC] at k1 k2
  cases e0 : (a.slot == b.slot)
  case false =>
    rw [orI_cmp_ne _ e0]
    repeat (first
      | (refine Tri.seq fun K hK => ?_)
      | (refine Tri.region ?_; simp [upd, e0, bne, orI])
      | (refine Tri.draw (by kernel_rfl) (by decide +kernel) ?_; simp [upd, e0, bne, orI])
      | (refine Tri.draw2 [5, 6] [0, 1, 2, 3] [4, 5, 6, 7] [] (by kernel_rfl) (by kernel_rfl) (by decide) (by rfl) (by decide +kernel) ?_; simp [upd, e0, bne, orI])
      | (refine Tri.cond_true ?_ ?_; (focus simp [upd, e0, bne, orI]; done))
      | (refine Tri.cond_false ?_ ?_; (focus simp [upd, e0, bne, orI]; done))
      | (refine Tri.skip ?_; simp only [thenS, blockS])
      | (refine Tri.block_seq ?_)
      | (refine Tri.block_region ?_)
      | (refine Tri.block_cond ?_)
      | ((with_reducible refine CallK.pure (k1) (Wks.refl _) ?_); simp [upd, e0, bne, orI])
      | ((with_reducible refine CallK.pure (k2) (Wks.refl _) ?_); simp [upd, e0, bne, orI])
      | (refine Tri.block_loop 8 ?_)
      | (refine Rounds.step ?_)
      | (refine Tri.exit ?_; simp [upd, e0, bne, orI]; first | (rename ∀ st, Tri _ _ _ st _ → _ => hK; first | (apply hK; clear hK) | (clear hK; rename ∀ st, Tri _ _ _ st _ → _ => hK; first | (apply hK; clear hK) | (clear hK; rename ∀ st, Tri _ _ _ st _ → _ => hK; first | (apply hK; clear hK) | (clear hK; rename ∀ st, Tri _ _ _ st _ → _ => hK; first | (apply hK; clear hK) | (clear hK; rename ∀ st, Tri _ _ _ st _ → _ => hK; first | (apply hK; clear hK) | (clear hK; rename ∀ st, Tri _ _ _ st _ → _ => hK; apply hK; clear hK)))))) | skip)
      | (intro β)
      | (rename ∀ st, Tri _ _ _ st _ → _ => hK; apply hK; clear hK))
    refine Tri.ret ⟨_, rfl, ?_⟩
    simp [upd]
    exact Wk.refl _
  rw [orI_cmp_eq _ e0]
  cases e1 : (a.cslot == b.cslot)
  case false =>
    rw [orI_cmp_ne _ e1]
    repeat (first
      | (refine Tri.seq fun K hK => ?_)
      | (refine Tri.region ?_; simp [upd, e0, e1, bne, orI])
      | (refine Tri.draw (by kernel_rfl) (by decide +kernel) ?_; simp [upd, e0, e1, bne, orI])
      | (refine Tri.draw2 [5, 6] [0, 1, 2, 3] [4, 5, 6, 7] [] (by kernel_rfl) (by kernel_rfl) (by decide) (by rfl) (by decide +kernel) ?_; simp [upd, e0, e1, bne, orI])
      | (refine Tri.cond_true ?_ ?_; (focus simp [upd, e0, e1, bne, orI]; done))
      | (refine Tri.cond_false ?_ ?_; (focus simp [upd, e0, e1, bne, orI]; done))
      | (refine Tri.skip ?_; simp only [thenS, blockS])
      | (refine Tri.block_seq ?_)
      | (refine Tri.block_region ?_)
      | (refine Tri.block_cond ?_)
      | ((with_reducible refine CallK.pure (k1) (Wks.refl _) ?_); simp [upd, e0, e1, bne, orI])
      | ((with_reducible refine CallK.pure (k2) (Wks.refl _) ?_); simp [upd, e0, e1, bne, orI])
      | (refine Tri.block_loop 8 ?_)
      | (refine Rounds.step ?_)
      | (refine Tri.exit ?_; simp [upd, e0, e1, bne, orI]; first | (rename ∀ st, Tri _ _ _ st _ → _ => hK; first | (apply hK; clear hK) | (clear hK; rename ∀ st, Tri _ _ _ st _ → _ => hK; first | (apply hK; clear hK) | (clear hK; rename ∀ st, Tri _ _ _ st _ → _ => hK; first | (apply hK; clear hK) | (clear hK; rename ∀ st, Tri _ _ _ st _ → _ => hK; first | (apply hK; clear hK) | (clear hK; rename ∀ st, Tri _ _ _ st _ → _ => hK; first | (apply hK; clear hK) | (clear hK; rename ∀ st, Tri _ _ _ st _ → _ => hK; apply hK; clear hK)))))) | skip)
      | (intro β)
      | (rename ∀ st, Tri _ _ _ st _ → _ => hK; apply hK; clear hK))
    refine Tri.ret ⟨_, rfl, ?_⟩
    simp [upd]
    exact Wk.refl _
  rw [orI_cmp_eq _ e1]
  cases e2 : (a.off == b.off)
  case false =>
    rw [orI_cmp_ne _ e2]
    repeat (first
      | (refine Tri.seq fun K hK => ?_)
      | (refine Tri.region ?_; simp [upd, e0, e1, e2, bne, orI])
      | (refine Tri.draw (by kernel_rfl) (by decide +kernel) ?_; simp [upd, e0, e1, e2, bne, orI])
      | (refine Tri.draw2 [5, 6] [0, 1, 2, 3] [4, 5, 6, 7] [] (by kernel_rfl) (by kernel_rfl) (by decide) (by rfl) (by decide +kernel) ?_; simp [upd, e0, e1, e2, bne, orI])
      | (refine Tri.cond_true ?_ ?_; (focus simp [upd, e0, e1, e2, bne, orI]; done))
      | (refine Tri.cond_false ?_ ?_; (focus simp [upd, e0, e1, e2, bne, orI]; done))
      | (refine Tri.skip ?_; simp only [thenS, blockS])
      | (refine Tri.block_seq ?_)
      | (refine Tri.block_region ?_)
      | (refine Tri.block_cond ?_)
      | ((with_reducible refine CallK.pure (k1) (Wks.refl _) ?_); simp [upd, e0, e1, e2, bne, orI])
      | ((with_reducible refine CallK.pure (k2) (Wks.refl _) ?_); simp [upd, e0, e1, e2, bne, orI])
      | (refine Tri.block_loop 8 ?_)
      | (refine Rounds.step ?_)
      | (refine Tri.exit ?_; simp [upd, e0, e1, e2, bne, orI]; first | (rename ∀ st, Tri _ _ _ st _ → _ => hK; first | (apply hK; clear hK) | (clear hK; rename ∀ st, Tri _ _ _ st _ → _ => hK; first | (apply hK; clear hK) | (clear hK; rename ∀ st, Tri _ _ _ st _ → _ => hK; first | (apply hK; clear hK) | (clear hK; rename ∀ st, Tri _ _ _ st _ → _ => hK; first | (apply hK; clear hK) | (clear hK; rename ∀ st, Tri _ _ _ st _ → _ => hK; first | (apply hK; clear hK) | (clear hK; rename ∀ st, Tri _ _ _ st _ → _ => hK; apply hK; clear hK)))))) | skip)
      | (intro β)
      | (rename ∀ st, Tri _ _ _ st _ → _ => hK; apply hK; clear hK))
    refine Tri.ret ⟨_, rfl, ?_⟩
    simp [upd]
    exact Wk.refl _
  rw [orI_cmp_eq _ e2]
  cases e3 : (a.frm == b.frm)
  case false =>
    rw [orI_cmp_ne _ e3]
    repeat (first
      | (refine Tri.seq fun K hK => ?_)
      | (refine Tri.region ?_; simp [upd, e0, e1, e2, e3, bne, orI])
      | (refine Tri.draw (by kernel_rfl) (by decide +kernel) ?_; simp [upd, e0, e1, e2, e3, bne, orI])
      | (refine Tri.draw2 [5, 6] [0, 1, 2, 3] [4, 5, 6, 7] [] (by kernel_rfl) (by kernel_rfl) (by decide) (by rfl) (by decide +kernel) ?_; simp [upd, e0, e1, e2, e3, bne, orI])
      | (refine Tri.cond_true ?_ ?_; (focus simp [upd, e0, e1, e2, e3, bne, orI]; done))
      | (refine Tri.cond_false ?_ ?_; (focus simp [upd, e0, e1, e2, e3, bne, orI]; done))
      | (refine Tri.skip ?_; simp only [thenS, blockS])
      | (refine Tri.block_seq ?_)
      | (refine Tri.block_region ?_)
      | (refine Tri.block_cond ?_)
      | ((with_reducible refine CallK.pure (k1) (Wks.refl _) ?_); simp [upd, e0, e1, e2, e3, bne, orI])
      | ((with_reducible refine CallK.pure (k2) (Wks.refl _) ?_); simp [upd, e0, e1, e2, e3, bne, orI])
      | (refine Tri.block_loop 8 ?_)
      | (refine Rounds.step ?_)
      | (refine Tri.exit ?_; simp [upd, e0, e1, e2, e3, bne, orI]; first | (rename ∀ st, Tri _ _ _ st _ → _ => hK; first | (apply hK; clear hK) | (clear hK; rename ∀ st, Tri _ _ _ st _ → _ => hK; first | (apply hK; clear hK) | (clear hK; rename ∀ st, Tri _ _ _ st _ → _ => hK; first | (apply hK; clear hK) | (clear hK; rename ∀ st, Tri _ _ _ st _ → _ => hK; first | (apply hK; clear hK) | (clear hK; rename ∀ st, Tri _ _ _ st _ → _ => hK; first | (apply hK; clear hK) | (clear hK; rename ∀ st, Tri _ _ _ st _ → _ => hK; apply hK; clear hK)))))) | skip)
      | (intro β)
      | (rename ∀ st, Tri _ _ _ st _ → _ => hK; apply hK; clear hK))
    refine Tri.ret ⟨_, rfl, ?_⟩
    simp [upd]
    exact Wk.refl _
  rw [orI_cmp_eq _ e3]
  cases e4 : (a.to == b.to)
  case false =>
    rw [orI_cmp_ne _ e4]
    repeat (first
      | (refine Tri.seq fun K hK => ?_)
      | (refine Tri.region ?_; simp [upd, e0, e1, e2, e3, e4, bne, orI])
      | (refine Tri.draw (by kernel_rfl) (by decide +kernel) ?_; simp [upd, e0, e1, e2, e3, e4, bne, orI])
      | (refine Tri.draw2 [5, 6] [0, 1, 2, 3] [4, 5, 6, 7] [] (by kernel_rfl) (by kernel_rfl) (by decide) (by rfl) (by decide +kernel) ?_; simp [upd, e0, e1, e2, e3, e4, bne, orI])
      | (refine Tri.cond_true ?_ ?_; (focus simp [upd, e0, e1, e2, e3, e4, bne, orI]; done))
      | (refine Tri.cond_false ?_ ?_; (focus simp [upd, e0, e1, e2, e3, e4, bne, orI]; done))
      | (refine Tri.skip ?_; simp only [thenS, blockS])
      | (refine Tri.block_seq ?_)
      | (refine Tri.block_region ?_)
      | (refine Tri.block_cond ?_)
      | ((with_reducible refine CallK.pure (k1) (Wks.refl _) ?_); simp [upd, e0, e1, e2, e3, e4, bne, orI])
      | ((with_reducible refine CallK.pure (k2) (Wks.refl _) ?_); simp [upd, e0, e1, e2, e3, e4, bne, orI])
      | (refine Tri.block_loop 8 ?_)
      | (refine Rounds.step ?_)
      | (refine Tri.exit ?_; simp [upd, e0, e1, e2, e3, e4, bne, orI]; first | (rename ∀ st, Tri _ _ _ st _ → _ => hK; first | (apply hK; clear hK) | (clear hK; rename ∀ st, Tri _ _ _ st _ → _ => hK; first | (apply hK; clear hK) | (clear hK; rename ∀ st, Tri _ _ _ st _ → _ => hK; first | (apply hK; clear hK) | (clear hK; rename ∀ st, Tri _ _ _ st _ → _ => hK; first | (apply hK; clear hK) | (clear hK; rename ∀ st, Tri _ _ _ st _ → _ => hK; first | (apply hK; clear hK) | (clear hK; rename ∀ st, Tri _ _ _ st _ → _ => hK; apply hK; clear hK)))))) | skip)
      | (intro β)
      | (rename ∀ st, Tri _ _ _ st _ → _ => hK; apply hK; clear hK))
    refine Tri.ret ⟨_, rfl, ?_⟩
    simp [upd]
    exact Wk.refl _
  rw [orI_cmp_eq _ e4]
  cases e5 : (a.flow == b.flow)
  case false =>
    rw [orI_cmp_ne _ e5]
    repeat (first
      | (refine Tri.seq fun K hK => ?_)
      | (refine Tri.region ?_; simp [upd, e0, e1, e2, e3, e4, e5, bne, orI])
      | (refine Tri.draw (by kernel_rfl) (by decide +kernel) ?_; simp [upd, e0, e1, e2, e3, e4, e5, bne, orI])
      | (refine Tri.draw2 [5, 6] [0, 1, 2, 3] [4, 5, 6, 7] [] (by kernel_rfl) (by kernel_rfl) (by decide) (by rfl) (by decide +kernel) ?_; simp [upd, e0, e1, e2, e3, e4, e5, bne, orI])
      | (refine Tri.cond_true ?_ ?_; (focus simp [upd, e0, e1, e2, e3, e4, e5, bne, orI]; done))
      | (refine Tri.cond_false ?_ ?_; (focus simp [upd, e0, e1, e2, e3, e4, e5, bne, orI]; done))
      | (refine Tri.skip ?_; simp only [thenS, blockS])
      | (refine Tri.block_seq ?_)
      | (refine Tri.block_region ?_)
      | (refine Tri.block_cond ?_)
      | ((with_reducible refine CallK.pure (k1) (Wks.refl _) ?_); simp [upd, e0, e1, e2, e3, e4, e5, bne, orI])
      | ((with_reducible refine CallK.pure (k2) (Wks.refl _) ?_); simp [upd, e0, e1, e2, e3, e4, e5, bne, orI])
      | (refine Tri.block_loop 8 ?_)
      | (refine Rounds.step ?_)
      | (refine Tri.exit ?_; simp [upd, e0, e1, e2, e3, e4, e5, bne, orI]; first | (rename ∀ st, Tri _ _ _ st _ → _ => hK; first | (apply hK; clear hK) | (clear hK; rename ∀ st, Tri _ _ _ st _ → _ => hK; first | (apply hK; clear hK) | (clear hK; rename ∀ st, Tri _ _ _ st _ → _ => hK; first | (apply hK; clear hK) | (clear hK; rename ∀ st, Tri _ _ _ st _ → _ => hK; first | (apply hK; clear hK) | (clear hK; rename ∀ st, Tri _ _ _ st _ → _ => hK; first | (apply hK; clear hK) | (clear hK; rename ∀ st, Tri _ _ _ st _ → _ => hK; apply hK; clear hK)))))) | skip)
      | (intro β)
      | (rename ∀ st, Tri _ _ _ st _ → _ => hK; apply hK; clear hK))
    refine Tri.ret ⟨_, rfl, ?_⟩
    simp [upd]
    exact Wk.refl _
  rw [orI_cmp_eq _ e5]
  repeat (first
    | (refine Tri.seq fun K hK => ?_)
    | (refine Tri.region ?_; simp [upd, e0, e1, e2, e3, e4, e5, bne, orI])
    | (refine Tri.draw (by kernel_rfl) (by decide +kernel) ?_; simp [upd, e0, e1, e2, e3, e4, e5, bne, orI])
    | (refine Tri.draw2 [5, 6] [0, 1, 2, 3] [4, 5, 6, 7] [] (by kernel_rfl) (by kernel_rfl) (by decide) (by rfl) (by decide +kernel) ?_; simp [upd, e0, e1, e2, e3, e4, e5, bne, orI])
    | (refine Tri.cond_true ?_ ?_; (focus simp [upd, e0, e1, e2, e3, e4, e5, bne, orI]; done))
    | (refine Tri.cond_false ?_ ?_; (focus simp [upd, e0, e1, e2, e3, e4, e5, bne, orI]; done))
    | (refine Tri.skip ?_; simp only [thenS, blockS])
    | (refine Tri.block_seq ?_)
    | (refine Tri.block_region ?_)
    | (refine Tri.block_cond ?_)
    | ((with_reducible refine CallK.pure (k1) (Wks.refl _) ?_); simp [upd, e0, e1, e2, e3, e4, e5, bne, orI])
    | ((with_reducible refine CallK.pure (k2) (Wks.refl _) ?_); simp [upd, e0, e1, e2, e3, e4, e5, bne, orI])
    | (refine Tri.block_loop 8 ?_)
    | (refine Rounds.step ?_)
    | (refine Tri.exit ?_; simp [upd, e0, e1, e2, e3, e4, e5, bne, orI]; first | (rename ∀ st, Tri _ _ _ st _ → _ => hK; first | (apply hK; clear hK) | (clear hK; rename ∀ st, Tri _ _ _ st _ → _ => hK; first | (apply hK; clear hK) | (clear hK; rename ∀ st, Tri _ _ _ st _ → _ => hK; first | (apply hK; clear hK) | (clear hK; rename ∀ st, Tri _ _ _ st _ → _ => hK; first | (apply hK; clear hK) | (clear hK; rename ∀ st, Tri _ _ _ st _ → _ => hK; first | (apply hK; clear hK) | (clear hK; rename ∀ st, Tri _ _ _ st _ → _ => hK; apply hK; clear hK)))))) | skip)
    | (intro β)
    | (rename ∀ st, Tri _ _ _ st _ → _ => hK; apply hK; clear hK))
  refine Tri.ret ⟨_, rfl, ?_⟩
  simp [upd]
  exact Wk.refl _
end Go.Proofs.Ytcohdlochpjnjaa
end
section
open Go Go.Vm
namespace Go.Proofs.Ytcohdlochpjnjaa
set_option maxRecDepth 100000
set_option maxHeartbeats 4000000
set_option linter.unusedSimpArgs false
theorem inB_below (n hi e : Int) (h : hi + 1 = e) : inB n 0 hi = belowB n e := by
  unfold inB belowB
  rw [Bool.eq_iff_iff]
  simp only [Bool.and_eq_true, decide_eq_true_eq]
  omega
theorem in0_does (n hi e : Int) (h : hi + 1 = e) : Does Try.prog 48 [.c (.int .i64 n), .c (.int .i64 0), .c (.int .i64 hi)] (.c (.bool (belowB n e))) := inB_below n hi e h ▸ in_does n 0 hi
theorem in14_does (n : Int) : Does Try.prog 48 [.c (.int .i64 n), .c (.int .i64 1), .c (.int .i64 4)] (.c (.bool (decide (1 ≤ n) && decide (n ≤ 4)))) := in_does n 1 4
attribute [local irreducible] Tri Does DoesB Rounds check sameB inB
theorem attR_does (r : Rec) (a : Att) (h0 : 0 ≤ r.slots) (h1 : r.slots ≤ 4096) : Does Try.prog 49 [.agg (recC r), .agg (attC a)] (.c (.bool (attOk a r.slots))) := by
  refine Does.of_body Try.func49 rfl (by kernel_rfl) rfl rfl (by simp) ?_
  intro E
  have hw : IntKind.i64.wrap (r.slots - 1) = r.slots - 1 := wrap_i64 (by omega) (by omega)
  have i1 := in0_does a.slot (r.slots - 1) r.slots (by omega)
  have i2 := in0_does a.frame 1048575 1048576 (by omega)
  have i3 := in0_does a.cslot 511 512 (by omega)
  have i4 := in0_does a.off 15 16 (by omega)
  have i5 := in0_does a.frm 31 32 (by omega)
  have i6 := in0_does a.to 31 32 (by omega)
  have i7 := in0_does a.flow 255 256 (by omega)
  have i8 := in14_does a.out
  simp only [recC]
  unfold attOk
  cases h1 : belowB a.slot r.slots
  case false =>
    repeat (first
      | (refine Tri.seq fun K hK => ?_)
      | (refine Tri.region ?_; simp [upd, hw, h1])
      | (refine Tri.draw (by kernel_rfl) (by decide +kernel) ?_; simp [upd, hw, h1])
      | (refine Tri.cond_true ?_ ?_; (focus simp [upd, hw, h1]; done))
      | (refine Tri.cond_false ?_ ?_; (focus simp [upd, hw, h1]; done))
      | (refine Tri.skip ?_; simp only [thenS, blockS])
      | (refine Tri.block_seq ?_)
      | (refine Tri.block_region ?_)
      | (refine Tri.block_cond ?_)
      | ((with_reducible refine CallK.pure (i1) (Wks.refl _) ?_); simp [upd, hw, h1])
      | ((with_reducible refine CallK.pure (i2) (Wks.refl _) ?_); simp [upd, hw, h1])
      | ((with_reducible refine CallK.pure (i3) (Wks.refl _) ?_); simp [upd, hw, h1])
      | ((with_reducible refine CallK.pure (i4) (Wks.refl _) ?_); simp [upd, hw, h1])
      | ((with_reducible refine CallK.pure (i5) (Wks.refl _) ?_); simp [upd, hw, h1])
      | ((with_reducible refine CallK.pure (i6) (Wks.refl _) ?_); simp [upd, hw, h1])
      | ((with_reducible refine CallK.pure (i7) (Wks.refl _) ?_); simp [upd, hw, h1])
      | ((with_reducible refine CallK.pure (i8) (Wks.refl _) ?_); simp [upd, hw, h1])
      | (refine Tri.exit ?_; simp [upd, hw, h1]; first | (rename ∀ st, Tri _ _ _ st _ → _ => hK; first | (apply hK; clear hK) | (clear hK; rename ∀ st, Tri _ _ _ st _ → _ => hK; first | (apply hK; clear hK) | (clear hK; rename ∀ st, Tri _ _ _ st _ → _ => hK; first | (apply hK; clear hK) | (clear hK; rename ∀ st, Tri _ _ _ st _ → _ => hK; first | (apply hK; clear hK) | (clear hK; rename ∀ st, Tri _ _ _ st _ → _ => hK; first | (apply hK; clear hK) | (clear hK; rename ∀ st, Tri _ _ _ st _ → _ => hK; apply hK; clear hK)))))) | skip)
      | (intro β)
      | (rename ∀ st, Tri _ _ _ st _ → _ => hK; apply hK; clear hK))
    refine Tri.ret ⟨_, rfl, ?_⟩
    simp [upd]
    exact Wk.refl _
  cases h2 : belowB a.frame 1048576
  case false =>
    repeat (first
      | (refine Tri.seq fun K hK => ?_)
      | (refine Tri.region ?_; simp [upd, hw, h1, h2])
      | (refine Tri.draw (by kernel_rfl) (by decide +kernel) ?_; simp [upd, hw, h1, h2])
      | (refine Tri.cond_true ?_ ?_; (focus simp [upd, hw, h1, h2]; done))
      | (refine Tri.cond_false ?_ ?_; (focus simp [upd, hw, h1, h2]; done))
      | (refine Tri.skip ?_; simp only [thenS, blockS])
      | (refine Tri.block_seq ?_)
      | (refine Tri.block_region ?_)
      | (refine Tri.block_cond ?_)
      | ((with_reducible refine CallK.pure (i1) (Wks.refl _) ?_); simp [upd, hw, h1, h2])
      | ((with_reducible refine CallK.pure (i2) (Wks.refl _) ?_); simp [upd, hw, h1, h2])
      | ((with_reducible refine CallK.pure (i3) (Wks.refl _) ?_); simp [upd, hw, h1, h2])
      | ((with_reducible refine CallK.pure (i4) (Wks.refl _) ?_); simp [upd, hw, h1, h2])
      | ((with_reducible refine CallK.pure (i5) (Wks.refl _) ?_); simp [upd, hw, h1, h2])
      | ((with_reducible refine CallK.pure (i6) (Wks.refl _) ?_); simp [upd, hw, h1, h2])
      | ((with_reducible refine CallK.pure (i7) (Wks.refl _) ?_); simp [upd, hw, h1, h2])
      | ((with_reducible refine CallK.pure (i8) (Wks.refl _) ?_); simp [upd, hw, h1, h2])
      | (refine Tri.exit ?_; simp [upd, hw, h1, h2]; first | (rename ∀ st, Tri _ _ _ st _ → _ => hK; first | (apply hK; clear hK) | (clear hK; rename ∀ st, Tri _ _ _ st _ → _ => hK; first | (apply hK; clear hK) | (clear hK; rename ∀ st, Tri _ _ _ st _ → _ => hK; first | (apply hK; clear hK) | (clear hK; rename ∀ st, Tri _ _ _ st _ → _ => hK; first | (apply hK; clear hK) | (clear hK; rename ∀ st, Tri _ _ _ st _ → _ => hK; first | (apply hK; clear hK) | (clear hK; rename ∀ st, Tri _ _ _ st _ → _ => hK; apply hK; clear hK)))))) | skip)
      | (intro β)
      | (rename ∀ st, Tri _ _ _ st _ → _ => hK; apply hK; clear hK))
    refine Tri.ret ⟨_, rfl, ?_⟩
    simp [upd]
    exact Wk.refl _
  cases h3 : belowB a.cslot 512
  case false =>
    repeat (first
      | (refine Tri.seq fun K hK => ?_)
      | (refine Tri.region ?_; simp [upd, hw, h1, h2, h3])
      | (refine Tri.draw (by kernel_rfl) (by decide +kernel) ?_; simp [upd, hw, h1, h2, h3])
      | (refine Tri.cond_true ?_ ?_; (focus simp [upd, hw, h1, h2, h3]; done))
      | (refine Tri.cond_false ?_ ?_; (focus simp [upd, hw, h1, h2, h3]; done))
      | (refine Tri.skip ?_; simp only [thenS, blockS])
      | (refine Tri.block_seq ?_)
      | (refine Tri.block_region ?_)
      | (refine Tri.block_cond ?_)
      | ((with_reducible refine CallK.pure (i1) (Wks.refl _) ?_); simp [upd, hw, h1, h2, h3])
      | ((with_reducible refine CallK.pure (i2) (Wks.refl _) ?_); simp [upd, hw, h1, h2, h3])
      | ((with_reducible refine CallK.pure (i3) (Wks.refl _) ?_); simp [upd, hw, h1, h2, h3])
      | ((with_reducible refine CallK.pure (i4) (Wks.refl _) ?_); simp [upd, hw, h1, h2, h3])
      | ((with_reducible refine CallK.pure (i5) (Wks.refl _) ?_); simp [upd, hw, h1, h2, h3])
      | ((with_reducible refine CallK.pure (i6) (Wks.refl _) ?_); simp [upd, hw, h1, h2, h3])
      | ((with_reducible refine CallK.pure (i7) (Wks.refl _) ?_); simp [upd, hw, h1, h2, h3])
      | ((with_reducible refine CallK.pure (i8) (Wks.refl _) ?_); simp [upd, hw, h1, h2, h3])
      | (refine Tri.exit ?_; simp [upd, hw, h1, h2, h3]; first | (rename ∀ st, Tri _ _ _ st _ → _ => hK; first | (apply hK; clear hK) | (clear hK; rename ∀ st, Tri _ _ _ st _ → _ => hK; first | (apply hK; clear hK) | (clear hK; rename ∀ st, Tri _ _ _ st _ → _ => hK; first | (apply hK; clear hK) | (clear hK; rename ∀ st, Tri _ _ _ st _ → _ => hK; first | (apply hK; clear hK) | (clear hK; rename ∀ st, Tri _ _ _ st _ → _ => hK; first | (apply hK; clear hK) | (clear hK; rename ∀ st, Tri _ _ _ st _ → _ => hK; apply hK; clear hK)))))) | skip)
      | (intro β)
      | (rename ∀ st, Tri _ _ _ st _ → _ => hK; apply hK; clear hK))
    refine Tri.ret ⟨_, rfl, ?_⟩
    simp [upd]
    exact Wk.refl _
  cases h4 : belowB a.off 16
  case false =>
    repeat (first
      | (refine Tri.seq fun K hK => ?_)
      | (refine Tri.region ?_; simp [upd, hw, h1, h2, h3, h4])
      | (refine Tri.draw (by kernel_rfl) (by decide +kernel) ?_; simp [upd, hw, h1, h2, h3, h4])
      | (refine Tri.cond_true ?_ ?_; (focus simp [upd, hw, h1, h2, h3, h4]; done))
      | (refine Tri.cond_false ?_ ?_; (focus simp [upd, hw, h1, h2, h3, h4]; done))
      | (refine Tri.skip ?_; simp only [thenS, blockS])
      | (refine Tri.block_seq ?_)
      | (refine Tri.block_region ?_)
      | (refine Tri.block_cond ?_)
      | ((with_reducible refine CallK.pure (i1) (Wks.refl _) ?_); simp [upd, hw, h1, h2, h3, h4])
      | ((with_reducible refine CallK.pure (i2) (Wks.refl _) ?_); simp [upd, hw, h1, h2, h3, h4])
      | ((with_reducible refine CallK.pure (i3) (Wks.refl _) ?_); simp [upd, hw, h1, h2, h3, h4])
      | ((with_reducible refine CallK.pure (i4) (Wks.refl _) ?_); simp [upd, hw, h1, h2, h3, h4])
      | ((with_reducible refine CallK.pure (i5) (Wks.refl _) ?_); simp [upd, hw, h1, h2, h3, h4])
      | ((with_reducible refine CallK.pure (i6) (Wks.refl _) ?_); simp [upd, hw, h1, h2, h3, h4])
      | ((with_reducible refine CallK.pure (i7) (Wks.refl _) ?_); simp [upd, hw, h1, h2, h3, h4])
      | ((with_reducible refine CallK.pure (i8) (Wks.refl _) ?_); simp [upd, hw, h1, h2, h3, h4])
      | (refine Tri.exit ?_; simp [upd, hw, h1, h2, h3, h4]; first | (rename ∀ st, Tri _ _ _ st _ → _ => hK; first | (apply hK; clear hK) | (clear hK; rename ∀ st, Tri _ _ _ st _ → _ => hK; first | (apply hK; clear hK) | (clear hK; rename ∀ st, Tri _ _ _ st _ → _ => hK; first | (apply hK; clear hK) | (clear hK; rename ∀ st, Tri _ _ _ st _ → _ => hK; first | (apply hK; clear hK) | (clear hK; rename ∀ st, Tri _ _ _ st _ → _ => hK; first | (apply hK; clear hK) | (clear hK; rename ∀ st, Tri _ _ _ st _ → _ => hK; apply hK; clear hK)))))) | skip)
      | (intro β)
      | (rename ∀ st, Tri _ _ _ st _ → _ => hK; apply hK; clear hK))
    refine Tri.ret ⟨_, rfl, ?_⟩
    simp [upd]
    exact Wk.refl _
  cases h5 : belowB a.frm 32
  case false =>
    repeat (first
      | (refine Tri.seq fun K hK => ?_)
      | (refine Tri.region ?_; simp [upd, hw, h1, h2, h3, h4, h5])
      | (refine Tri.draw (by kernel_rfl) (by decide +kernel) ?_; simp [upd, hw, h1, h2, h3, h4, h5])
      | (refine Tri.cond_true ?_ ?_; (focus simp [upd, hw, h1, h2, h3, h4, h5]; done))
      | (refine Tri.cond_false ?_ ?_; (focus simp [upd, hw, h1, h2, h3, h4, h5]; done))
      | (refine Tri.skip ?_; simp only [thenS, blockS])
      | (refine Tri.block_seq ?_)
      | (refine Tri.block_region ?_)
      | (refine Tri.block_cond ?_)
      | ((with_reducible refine CallK.pure (i1) (Wks.refl _) ?_); simp [upd, hw, h1, h2, h3, h4, h5])
      | ((with_reducible refine CallK.pure (i2) (Wks.refl _) ?_); simp [upd, hw, h1, h2, h3, h4, h5])
      | ((with_reducible refine CallK.pure (i3) (Wks.refl _) ?_); simp [upd, hw, h1, h2, h3, h4, h5])
      | ((with_reducible refine CallK.pure (i4) (Wks.refl _) ?_); simp [upd, hw, h1, h2, h3, h4, h5])
      | ((with_reducible refine CallK.pure (i5) (Wks.refl _) ?_); simp [upd, hw, h1, h2, h3, h4, h5])
      | ((with_reducible refine CallK.pure (i6) (Wks.refl _) ?_); simp [upd, hw, h1, h2, h3, h4, h5])
      | ((with_reducible refine CallK.pure (i7) (Wks.refl _) ?_); simp [upd, hw, h1, h2, h3, h4, h5])
      | ((with_reducible refine CallK.pure (i8) (Wks.refl _) ?_); simp [upd, hw, h1, h2, h3, h4, h5])
      | (refine Tri.exit ?_; simp [upd, hw, h1, h2, h3, h4, h5]; first | (rename ∀ st, Tri _ _ _ st _ → _ => hK; first | (apply hK; clear hK) | (clear hK; rename ∀ st, Tri _ _ _ st _ → _ => hK; first | (apply hK; clear hK) | (clear hK; rename ∀ st, Tri _ _ _ st _ → _ => hK; first | (apply hK; clear hK) | (clear hK; rename ∀ st, Tri _ _ _ st _ → _ => hK; first | (apply hK; clear hK) | (clear hK; rename ∀ st, Tri _ _ _ st _ → _ => hK; first | (apply hK; clear hK) | (clear hK; rename ∀ st, Tri _ _ _ st _ → _ => hK; apply hK; clear hK)))))) | skip)
      | (intro β)
      | (rename ∀ st, Tri _ _ _ st _ → _ => hK; apply hK; clear hK))
    refine Tri.ret ⟨_, rfl, ?_⟩
    simp [upd]
    exact Wk.refl _
  cases h6 : belowB a.to 32
  case false =>
    repeat (first
      | (refine Tri.seq fun K hK => ?_)
      | (refine Tri.region ?_; simp [upd, hw, h1, h2, h3, h4, h5, h6])
      | (refine Tri.draw (by kernel_rfl) (by decide +kernel) ?_; simp [upd, hw, h1, h2, h3, h4, h5, h6])
      | (refine Tri.cond_true ?_ ?_; (focus simp [upd, hw, h1, h2, h3, h4, h5, h6]; done))
      | (refine Tri.cond_false ?_ ?_; (focus simp [upd, hw, h1, h2, h3, h4, h5, h6]; done))
      | (refine Tri.skip ?_; simp only [thenS, blockS])
      | (refine Tri.block_seq ?_)
      | (refine Tri.block_region ?_)
      | (refine Tri.block_cond ?_)
      | ((with_reducible refine CallK.pure (i1) (Wks.refl _) ?_); simp [upd, hw, h1, h2, h3, h4, h5, h6])
      | ((with_reducible refine CallK.pure (i2) (Wks.refl _) ?_); simp [upd, hw, h1, h2, h3, h4, h5, h6])
      | ((with_reducible refine CallK.pure (i3) (Wks.refl _) ?_); simp [upd, hw, h1, h2, h3, h4, h5, h6])
      | ((with_reducible refine CallK.pure (i4) (Wks.refl _) ?_); simp [upd, hw, h1, h2, h3, h4, h5, h6])
      | ((with_reducible refine CallK.pure (i5) (Wks.refl _) ?_); simp [upd, hw, h1, h2, h3, h4, h5, h6])
      | ((with_reducible refine CallK.pure (i6) (Wks.refl _) ?_); simp [upd, hw, h1, h2, h3, h4, h5, h6])
      | ((with_reducible refine CallK.pure (i7) (Wks.refl _) ?_); simp [upd, hw, h1, h2, h3, h4, h5, h6])
      | ((with_reducible refine CallK.pure (i8) (Wks.refl _) ?_); simp [upd, hw, h1, h2, h3, h4, h5, h6])
      | (refine Tri.exit ?_; simp [upd, hw, h1, h2, h3, h4, h5, h6]; first | (rename ∀ st, Tri _ _ _ st _ → _ => hK; first | (apply hK; clear hK) | (clear hK; rename ∀ st, Tri _ _ _ st _ → _ => hK; first | (apply hK; clear hK) | (clear hK; rename ∀ st, Tri _ _ _ st _ → _ => hK; first | (apply hK; clear hK) | (clear hK; rename ∀ st, Tri _ _ _ st _ → _ => hK; first | (apply hK; clear hK) | (clear hK; rename ∀ st, Tri _ _ _ st _ → _ => hK; first | (apply hK; clear hK) | (clear hK; rename ∀ st, Tri _ _ _ st _ → _ => hK; apply hK; clear hK)))))) | skip)
      | (intro β)
      | (rename ∀ st, Tri _ _ _ st _ → _ => hK; apply hK; clear hK))
    refine Tri.ret ⟨_, rfl, ?_⟩
    simp [upd]
    exact Wk.refl _
  cases h7 : (a.frm == a.to)
  case true =>
    repeat (first
      | (refine Tri.seq fun K hK => ?_)
      | (refine Tri.region ?_; simp [upd, hw, h1, h2, h3, h4, h5, h6, h7, bne])
      | (refine Tri.draw (by kernel_rfl) (by decide +kernel) ?_; simp [upd, hw, h1, h2, h3, h4, h5, h6, h7, bne])
      | (refine Tri.cond_true ?_ ?_; (focus simp [upd, hw, h1, h2, h3, h4, h5, h6, h7, bne]; done))
      | (refine Tri.cond_false ?_ ?_; (focus simp [upd, hw, h1, h2, h3, h4, h5, h6, h7, bne]; done))
      | (refine Tri.skip ?_; simp only [thenS, blockS])
      | (refine Tri.block_seq ?_)
      | (refine Tri.block_region ?_)
      | (refine Tri.block_cond ?_)
      | ((with_reducible refine CallK.pure (i1) (Wks.refl _) ?_); simp [upd, hw, h1, h2, h3, h4, h5, h6, h7, bne])
      | ((with_reducible refine CallK.pure (i2) (Wks.refl _) ?_); simp [upd, hw, h1, h2, h3, h4, h5, h6, h7, bne])
      | ((with_reducible refine CallK.pure (i3) (Wks.refl _) ?_); simp [upd, hw, h1, h2, h3, h4, h5, h6, h7, bne])
      | ((with_reducible refine CallK.pure (i4) (Wks.refl _) ?_); simp [upd, hw, h1, h2, h3, h4, h5, h6, h7, bne])
      | ((with_reducible refine CallK.pure (i5) (Wks.refl _) ?_); simp [upd, hw, h1, h2, h3, h4, h5, h6, h7, bne])
      | ((with_reducible refine CallK.pure (i6) (Wks.refl _) ?_); simp [upd, hw, h1, h2, h3, h4, h5, h6, h7, bne])
      | ((with_reducible refine CallK.pure (i7) (Wks.refl _) ?_); simp [upd, hw, h1, h2, h3, h4, h5, h6, h7, bne])
      | ((with_reducible refine CallK.pure (i8) (Wks.refl _) ?_); simp [upd, hw, h1, h2, h3, h4, h5, h6, h7, bne])
      | (refine Tri.exit ?_; simp [upd, hw, h1, h2, h3, h4, h5, h6, h7, bne]; first | (rename ∀ st, Tri _ _ _ st _ → _ => hK; first | (apply hK; clear hK) | (clear hK; rename ∀ st, Tri _ _ _ st _ → _ => hK; first | (apply hK; clear hK) | (clear hK; rename ∀ st, Tri _ _ _ st _ → _ => hK; first | (apply hK; clear hK) | (clear hK; rename ∀ st, Tri _ _ _ st _ → _ => hK; first | (apply hK; clear hK) | (clear hK; rename ∀ st, Tri _ _ _ st _ → _ => hK; first | (apply hK; clear hK) | (clear hK; rename ∀ st, Tri _ _ _ st _ → _ => hK; apply hK; clear hK)))))) | skip)
      | (intro β)
      | (rename ∀ st, Tri _ _ _ st _ → _ => hK; apply hK; clear hK))
    refine Tri.ret ⟨_, rfl, ?_⟩
    simp [upd]
    exact Wk.refl _
  cases h8 : belowB a.flow 256
  case false =>
    repeat (first
      | (refine Tri.seq fun K hK => ?_)
      | (refine Tri.region ?_; simp [upd, hw, h1, h2, h3, h4, h5, h6, h7, h8, bne])
      | (refine Tri.draw (by kernel_rfl) (by decide +kernel) ?_; simp [upd, hw, h1, h2, h3, h4, h5, h6, h7, h8, bne])
      | (refine Tri.cond_true ?_ ?_; (focus simp [upd, hw, h1, h2, h3, h4, h5, h6, h7, h8, bne]; done))
      | (refine Tri.cond_false ?_ ?_; (focus simp [upd, hw, h1, h2, h3, h4, h5, h6, h7, h8, bne]; done))
      | (refine Tri.skip ?_; simp only [thenS, blockS])
      | (refine Tri.block_seq ?_)
      | (refine Tri.block_region ?_)
      | (refine Tri.block_cond ?_)
      | ((with_reducible refine CallK.pure (i1) (Wks.refl _) ?_); simp [upd, hw, h1, h2, h3, h4, h5, h6, h7, h8, bne])
      | ((with_reducible refine CallK.pure (i2) (Wks.refl _) ?_); simp [upd, hw, h1, h2, h3, h4, h5, h6, h7, h8, bne])
      | ((with_reducible refine CallK.pure (i3) (Wks.refl _) ?_); simp [upd, hw, h1, h2, h3, h4, h5, h6, h7, h8, bne])
      | ((with_reducible refine CallK.pure (i4) (Wks.refl _) ?_); simp [upd, hw, h1, h2, h3, h4, h5, h6, h7, h8, bne])
      | ((with_reducible refine CallK.pure (i5) (Wks.refl _) ?_); simp [upd, hw, h1, h2, h3, h4, h5, h6, h7, h8, bne])
      | ((with_reducible refine CallK.pure (i6) (Wks.refl _) ?_); simp [upd, hw, h1, h2, h3, h4, h5, h6, h7, h8, bne])
      | ((with_reducible refine CallK.pure (i7) (Wks.refl _) ?_); simp [upd, hw, h1, h2, h3, h4, h5, h6, h7, h8, bne])
      | ((with_reducible refine CallK.pure (i8) (Wks.refl _) ?_); simp [upd, hw, h1, h2, h3, h4, h5, h6, h7, h8, bne])
      | (refine Tri.exit ?_; simp [upd, hw, h1, h2, h3, h4, h5, h6, h7, h8, bne]; first | (rename ∀ st, Tri _ _ _ st _ → _ => hK; first | (apply hK; clear hK) | (clear hK; rename ∀ st, Tri _ _ _ st _ → _ => hK; first | (apply hK; clear hK) | (clear hK; rename ∀ st, Tri _ _ _ st _ → _ => hK; first | (apply hK; clear hK) | (clear hK; rename ∀ st, Tri _ _ _ st _ → _ => hK; first | (apply hK; clear hK) | (clear hK; rename ∀ st, Tri _ _ _ st _ → _ => hK; first | (apply hK; clear hK) | (clear hK; rename ∀ st, Tri _ _ _ st _ → _ => hK; apply hK; clear hK)))))) | skip)
      | (intro β)
      | (rename ∀ st, Tri _ _ _ st _ → _ => hK; apply hK; clear hK))
    refine Tri.ret ⟨_, rfl, ?_⟩
    simp [upd]
    exact Wk.refl _
  repeat (first
    | (refine Tri.seq fun K hK => ?_)
    | (refine Tri.region ?_; simp [upd, hw, h1, h2, h3, h4, h5, h6, h7, h8, bne])
    | (refine Tri.draw (by kernel_rfl) (by decide +kernel) ?_; simp [upd, hw, h1, h2, h3, h4, h5, h6, h7, h8, bne])
    | (refine Tri.cond_true ?_ ?_; (focus simp [upd, hw, h1, h2, h3, h4, h5, h6, h7, h8, bne]; done))
    | (refine Tri.cond_false ?_ ?_; (focus simp [upd, hw, h1, h2, h3, h4, h5, h6, h7, h8, bne]; done))
    | (refine Tri.skip ?_; simp only [thenS, blockS])
    | (refine Tri.block_seq ?_)
    | (refine Tri.block_region ?_)
    | (refine Tri.block_cond ?_)
    | ((with_reducible refine CallK.pure (i1) (Wks.refl _) ?_); simp [upd, hw, h1, h2, h3, h4, h5, h6, h7, h8, bne])
    | ((with_reducible refine CallK.pure (i2) (Wks.refl _) ?_); simp [upd, hw, h1, h2, h3, h4, h5, h6, h7, h8, bne])
    | ((with_reducible refine CallK.pure (i3) (Wks.refl _) ?_); simp [upd, hw, h1, h2, h3, h4, h5, h6, h7, h8, bne])
    | ((with_reducible refine CallK.pure (i4) (Wks.refl _) ?_); simp [upd, hw, h1, h2, h3, h4, h5, h6, h7, h8, bne])
    | ((with_reducible refine CallK.pure (i5) (Wks.refl _) ?_); simp [upd, hw, h1, h2, h3, h4, h5, h6, h7, h8, bne])
    | ((with_reducible refine CallK.pure (i6) (Wks.refl _) ?_); simp [upd, hw, h1, h2, h3, h4, h5, h6, h7, h8, bne])
    | ((with_reducible refine CallK.pure (i7) (Wks.refl _) ?_); simp [upd, hw, h1, h2, h3, h4, h5, h6, h7, h8, bne])
    | ((with_reducible refine CallK.pure (i8) (Wks.refl _) ?_); simp [upd, hw, h1, h2, h3, h4, h5, h6, h7, h8, bne])
    | (refine Tri.exit ?_; simp [upd, hw, h1, h2, h3, h4, h5, h6, h7, h8, bne]; first | (rename ∀ st, Tri _ _ _ st _ → _ => hK; first | (apply hK; clear hK) | (clear hK; rename ∀ st, Tri _ _ _ st _ → _ => hK; first | (apply hK; clear hK) | (clear hK; rename ∀ st, Tri _ _ _ st _ → _ => hK; first | (apply hK; clear hK) | (clear hK; rename ∀ st, Tri _ _ _ st _ → _ => hK; first | (apply hK; clear hK) | (clear hK; rename ∀ st, Tri _ _ _ st _ → _ => hK; first | (apply hK; clear hK) | (clear hK; rename ∀ st, Tri _ _ _ st _ → _ => hK; apply hK; clear hK)))))) | skip)
    | (intro β)
    | (rename ∀ st, Tri _ _ _ st _ → _ => hK; apply hK; clear hK))
  refine Tri.ret ⟨_, rfl, ?_⟩
  simp [upd]
  exact Wk.refl _
structure KI (r : Rec) (st : St) (b1 : Nat) : Prop where
  hn : st.n = 152
  s1 : st.sl 1 = .c (.box 1 b1 0)
  x1 : st.bx 1 = some (b1, [.int .i64 r.slots, .sl r.an 8 none (r.atts.map attC), .sl r.dn 3 none (r.dels.map delC)])
/-- The first i attempts are in order. -/
def UpA (r : Rec) (i : Nat) : Prop := (∀ k (_ : k < r.atts.length), k < i → attOk r.atts[k] r.slots = true) ∧ ∀ k l (_ : k < r.atts.length) (_ : l < r.atts.length), k < l → l < i → okA r.atts[k] r.atts[l]
def UpD (r : Rec) (i : Nat) : Prop := (∀ k (_ : k < r.dels.length), k < i → delOk r.dels[k] r.slots) ∧ ∀ k l (_ : k < r.dels.length) (_ : l < r.dels.length), k < l → l < i → ltD r.dels[k] r.dels[l]
theorem UpA.all {r : Rec} (h : UpA r r.atts.length) : AttsP r.slots r.atts :=
  ⟨fun a ha => by obtain ⟨k, hk, rfl⟩ := List.getElem_of_mem ha; exact h.1 k hk hk, List.pairwise_iff_getElem.2 fun k l hk hl hkl => h.2 k l hk hl hkl hl⟩
theorem UpD.all {r : Rec} (h : UpD r r.dels.length) : DelsP r.slots r.dels :=
  ⟨fun a ha => by obtain ⟨k, hk, rfl⟩ := List.getElem_of_mem ha; exact h.1 k hk hk, List.pairwise_iff_getElem.2 fun k l hk hl hkl => h.2 k l hk hl hkl hl⟩
theorem UpA.succ {r : Rec} {i : Nat} (h : UpA r i) (hi : i < r.atts.length) (ho : attOk r.atts[i] r.slots = true) (hk : ∀ k (_ : k < r.atts.length), k < i → okA r.atts[k] r.atts[i]) : UpA r (i + 1) := by
  refine ⟨fun k hkl hki => ?_, fun k l hkl hll hlt hli => ?_⟩
  · rcases Nat.lt_succ_iff_lt_or_eq.1 hki with h' | rfl
    · exact h.1 k hkl h'
    · exact ho
  · rcases Nat.lt_succ_iff_lt_or_eq.1 hli with h' | rfl
    · exact h.2 k l hkl hll hlt h'
    · exact hk k hkl hlt
theorem UpD.succ {r : Rec} {i : Nat} (h : UpD r i) (hi : i < r.dels.length) (ho : delOk r.dels[i] r.slots) (hk : ∀ k (_ : k < r.dels.length), k < i → ltD r.dels[k] r.dels[i]) : UpD r (i + 1) := by
  refine ⟨fun k hkl hki => ?_, fun k l hkl hll hlt hli => ?_⟩
  · rcases Nat.lt_succ_iff_lt_or_eq.1 hki with h' | rfl
    · exact h.1 k hkl h'
    · exact ho
  · rcases Nat.lt_succ_iff_lt_or_eq.1 hli with h' | rfl
    · exact h.2 k l hkl hll hlt h'
    · exact hk k hkl hlt
theorem UpA.ltA {r : Rec} {p : Nat} (h : UpA r (p + 1)) (hp : p + 1 < r.atts.length) (hl : cmpA r.atts[p] r.atts[p + 1] < 0) : ∀ k (_ : k < r.atts.length), k < p + 1 → ltA r.atts[k] r.atts[p + 1] := by
  intro k hk hkp
  have h1 := (cmpA_lt _ _).1 hl
  rcases Nat.lt_succ_iff_lt_or_eq.1 hkp with h' | rfl
  · exact ltA_trans (h.2 k p hk (by omega) h' (by omega)).1 h1
  · exact h1
theorem not_order {r : Rec} (h : ¬ InOrder r) : check r = 1 := by
  have : ¬ check r = 0 := fun e => h ((check_iff r).1 e)
  unfold check at this ⊢
  split <;> simp_all
theorem bad_att {r : Rec} (i : Nat) (hi : i < r.atts.length) (h : attOk r.atts[i] r.slots = false) : check r = 1 :=
  not_order fun ho => by have := ho.atts.1 _ (List.getElem_mem hi); rw [h] at this; cases this
theorem bad_pair {r : Rec} (i j : Nat) (hi : i < r.atts.length) (hj : j < i) (h : ¬ okA r.atts[j] r.atts[i]) : check r = 1 :=
  not_order fun ho => h (List.pairwise_iff_getElem.1 ho.atts.2 j i (by omega) hi hj)
theorem bad_del {r : Rec} (i : Nat) (hi : i < r.dels.length) (h : ¬ delOk r.dels[i] r.slots) : check r = 1 :=
  not_order fun ho => h (ho.dels.1 _ (List.getElem_mem hi))
theorem bad_dpair {r : Rec} (i j : Nat) (hi : i < r.dels.length) (hj : j < i) (h : ¬ ltD r.dels[j] r.dels[i]) : check r = 1 :=
  not_order fun ho => h (List.pairwise_iff_getElem.1 ho.dels.2 j i (by omega) hi hj)
def KInv1 (r : Rec) (m : Nat) (st : St) : Prop := ∃ b1 i, KI r st b1 ∧ m + i = r.atts.length ∧ st.sl 3 = .c (.int .i64 (i : Nat)) ∧ UpA r i
def KEnd1 (r : Rec) (st : St) : Prop := ∃ b1, KI r st b1 ∧ UpA r r.atts.length
def KInv2 (r : Rec) (i : Nat) (b4 : Nat) (a : Att) (m : Nat) (st : St) : Prop := ∃ (b1 : Nat) (j : Int), KI r st b1 ∧ st.sl 4 = .c (.box 4 b4 0) ∧ st.bx 4 = some (b4, attC a) ∧ st.sl 3 = .c (.int .i64 (i : Nat)) ∧ st.sl 5 = .c (.int .i64 j) ∧ (m : Int) = j + 1 ∧ j < i ∧ ∀ k (_ : k < r.atts.length), j < (k : Int) → k < i → r.atts[k].frm ≠ a.frm
def KEnd2 (r : Rec) (i : Nat) (a : Att) (st : St) : Prop := ∃ b1, KI r st b1 ∧ st.sl 3 = .c (.int .i64 (i : Nat)) ∧ ∀ k (_ : k < r.atts.length), k < i → ¬ (r.atts[k].slot = a.slot ∧ r.atts[k].frm = a.frm)
def KInv3 (r : Rec) (m : Nat) (st : St) : Prop := ∃ b1 i, KI r st b1 ∧ m + i = r.dels.length ∧ st.sl 6 = .c (.int .i64 (i : Nat)) ∧ UpD r i
theorem ltD_trans {a b c : Del} (h1 : ltD a b) (h2 : ltD b c) : ltD a c := by
  unfold ltD at *
  omega
theorem checkR_does (r : Rec) : Does Try.prog 19 [.agg (recC r)] (.c (.int .i64 (check r))) := by
  refine Does.of_body Try.func19 rfl (by kernel_rfl) rfl rfl (by simp) ?_
  intro E
  have i0 := in0_does r.slots 4096 4097 (by omega)
  have hck := check_iff r
  simp only [recC]
  cases g1 : belowB r.slots 4097
  case false =>
    rw [not_order (r := r) fun h => by
      have := h.s0; have := h.s1
      simp [belowB] at g1; omega]
    repeat (first
      | (refine Tri.seq fun K hK => ?_)
      | (refine Tri.region ?_; simp [upd, g1])
      | (refine Tri.draw (by kernel_rfl) (by decide +kernel) ?_; simp [upd, g1])
      | (refine Tri.cond_true ?_ ?_; (focus simp [upd, g1]; done))
      | (refine Tri.cond_false ?_ ?_; (focus simp [upd, g1]; done))
      | (refine Tri.skip ?_; simp only [thenS, blockS])
      | (refine Tri.block_seq ?_)
      | (refine Tri.block_region ?_)
      | (refine Tri.block_cond ?_)
      | ((with_reducible refine CallK.pure (i0) (Wks.refl _) ?_); simp [upd, g1])
      | (refine Tri.exit ?_; simp [upd, g1]; first | (rename ∀ st, Tri _ _ _ st _ → _ => hK; first | (apply hK; clear hK) | (clear hK; rename ∀ st, Tri _ _ _ st _ → _ => hK; first | (apply hK; clear hK) | (clear hK; rename ∀ st, Tri _ _ _ st _ → _ => hK; first | (apply hK; clear hK) | (clear hK; rename ∀ st, Tri _ _ _ st _ → _ => hK; first | (apply hK; clear hK) | (clear hK; rename ∀ st, Tri _ _ _ st _ → _ => hK; first | (apply hK; clear hK) | (clear hK; rename ∀ st, Tri _ _ _ st _ → _ => hK; apply hK; clear hK)))))) | skip)
      | (intro β)
      | (rename ∀ st, Tri _ _ _ st _ → _ => hK; apply hK; clear hK))
    refine Tri.ret ⟨_, rfl, ?_⟩
    simp [upd]
    exact Wk.refl _
  by_cases g2 : (65536 : Int) < (r.atts.length : Int)
  · rw [not_order (r := r) fun h => by have := h.al; omega]
    repeat (first
      | (refine Tri.seq fun K hK => ?_)
      | (refine Tri.region ?_; simp [upd, g1, g2])
      | (refine Tri.draw (by kernel_rfl) (by decide +kernel) ?_; simp [upd, g1, g2])
      | (refine Tri.cond_true ?_ ?_; (focus simp [upd, g1, g2]; done))
      | (refine Tri.cond_false ?_ ?_; (focus simp [upd, g1, g2]; done))
      | (refine Tri.skip ?_; simp only [thenS, blockS])
      | (refine Tri.block_seq ?_)
      | (refine Tri.block_region ?_)
      | (refine Tri.block_cond ?_)
      | ((with_reducible refine CallK.pure (i0) (Wks.refl _) ?_); simp [upd, g1, g2])
      | (refine Tri.exit ?_; simp [upd, g1, g2]; first | (rename ∀ st, Tri _ _ _ st _ → _ => hK; first | (apply hK; clear hK) | (clear hK; rename ∀ st, Tri _ _ _ st _ → _ => hK; first | (apply hK; clear hK) | (clear hK; rename ∀ st, Tri _ _ _ st _ → _ => hK; first | (apply hK; clear hK) | (clear hK; rename ∀ st, Tri _ _ _ st _ → _ => hK; first | (apply hK; clear hK) | (clear hK; rename ∀ st, Tri _ _ _ st _ → _ => hK; first | (apply hK; clear hK) | (clear hK; rename ∀ st, Tri _ _ _ st _ → _ => hK; apply hK; clear hK)))))) | skip)
      | (intro β)
      | (rename ∀ st, Tri _ _ _ st _ → _ => hK; apply hK; clear hK))
    refine Tri.ret ⟨_, rfl, ?_⟩
    simp [upd]
    exact Wk.refl _
  by_cases g3 : (65536 : Int) < (r.dels.length : Int)
  · rw [not_order (r := r) fun h => by have := h.dl; omega]
    repeat (first
      | (refine Tri.seq fun K hK => ?_)
      | (refine Tri.region ?_; simp [upd, g1, g2, g3])
      | (refine Tri.draw (by kernel_rfl) (by decide +kernel) ?_; simp [upd, g1, g2, g3])
      | (refine Tri.cond_true ?_ ?_; (focus simp [upd, g1, g2, g3]; done))
      | (refine Tri.cond_false ?_ ?_; (focus simp [upd, g1, g2, g3]; done))
      | (refine Tri.skip ?_; simp only [thenS, blockS])
      | (refine Tri.block_seq ?_)
      | (refine Tri.block_region ?_)
      | (refine Tri.block_cond ?_)
      | ((with_reducible refine CallK.pure (i0) (Wks.refl _) ?_); simp [upd, g1, g2, g3])
      | (refine Tri.exit ?_; simp [upd, g1, g2, g3]; first | (rename ∀ st, Tri _ _ _ st _ → _ => hK; first | (apply hK; clear hK) | (clear hK; rename ∀ st, Tri _ _ _ st _ → _ => hK; first | (apply hK; clear hK) | (clear hK; rename ∀ st, Tri _ _ _ st _ → _ => hK; first | (apply hK; clear hK) | (clear hK; rename ∀ st, Tri _ _ _ st _ → _ => hK; first | (apply hK; clear hK) | (clear hK; rename ∀ st, Tri _ _ _ st _ → _ => hK; first | (apply hK; clear hK) | (clear hK; rename ∀ st, Tri _ _ _ st _ → _ => hK; apply hK; clear hK)))))) | skip)
      | (intro β)
      | (rename ∀ st, Tri _ _ _ st _ → _ => hK; apply hK; clear hK))
    refine Tri.ret ⟨_, rfl, ?_⟩
    simp [upd]
    exact Wk.refl _
  have hs : 0 ≤ r.slots ∧ r.slots < 4097 := by simpa [belowB] using g1
  repeat (first
    | (refine Tri.seq fun K hK => ?_)
    | (refine Tri.region ?_; simp [upd, g1, g2, g3])
    | (refine Tri.draw (by kernel_rfl) (by decide +kernel) ?_; simp [upd, g1, g2, g3])
    | (refine Tri.cond_true ?_ ?_; (focus simp [upd, g1, g2, g3]; done))
    | (refine Tri.cond_false ?_ ?_; (focus simp [upd, g1, g2, g3]; done))
    | (refine Tri.skip ?_; simp only [thenS, blockS])
    | (refine Tri.block_seq ?_)
    | (refine Tri.block_region ?_)
    | (refine Tri.block_cond ?_)
    | ((with_reducible refine CallK.pure (i0) (Wks.refl _) ?_); simp [upd, g1, g2, g3])
    | (refine Tri.exit ?_; simp [upd, g1, g2, g3]; first | (rename ∀ st, Tri _ _ _ st _ → _ => hK; first | (apply hK; clear hK) | (clear hK; rename ∀ st, Tri _ _ _ st _ → _ => hK; first | (apply hK; clear hK) | (clear hK; rename ∀ st, Tri _ _ _ st _ → _ => hK; first | (apply hK; clear hK) | (clear hK; rename ∀ st, Tri _ _ _ st _ → _ => hK; first | (apply hK; clear hK) | (clear hK; rename ∀ st, Tri _ _ _ st _ → _ => hK; first | (apply hK; clear hK) | (clear hK; rename ∀ st, Tri _ _ _ st _ → _ => hK; apply hK; clear hK)))))) | skip)
    | (intro β)
    | (rename ∀ st, Tri _ _ _ st _ → _ => hK; apply hK; clear hK))
  rename ∀ st, Tri _ _ _ st _ → _ => hK
  have fin := fun (st : St) (h : KEnd1 r st) => hK st ?tail
  case tail =>
    obtain ⟨b1, ⟨hn, s1, x1⟩, hA⟩ := h
    clear hK
    repeat (first
      | (refine Tri.seq fun K hK => ?_)
      | (refine Tri.region ?_; simp [upd, hn, s1, x1])
      | (refine Tri.draw (by kernel_rfl) (by decide +kernel) ?_; simp [upd, hn, s1, x1])
      | (refine Tri.cond_true ?_ ?_; (focus simp [upd, hn, s1, x1]; done))
      | (refine Tri.cond_false ?_ ?_; (focus simp [upd, hn, s1, x1]; done))
      | (refine Tri.skip ?_; simp only [thenS, blockS])
      | (refine Tri.block_seq ?_)
      | (refine Tri.block_region ?_)
      | (refine Tri.block_cond ?_)
      | (refine Tri.exit ?_; simp [upd, hn, s1, x1]; first | (rename ∀ st, Tri _ _ _ st _ → _ => hK; first | (apply hK; clear hK) | (clear hK; rename ∀ st, Tri _ _ _ st _ → _ => hK; first | (apply hK; clear hK) | (clear hK; rename ∀ st, Tri _ _ _ st _ → _ => hK; first | (apply hK; clear hK) | (clear hK; rename ∀ st, Tri _ _ _ st _ → _ => hK; first | (apply hK; clear hK) | (clear hK; rename ∀ st, Tri _ _ _ st _ → _ => hK; first | (apply hK; clear hK) | (clear hK; rename ∀ st, Tri _ _ _ st _ → _ => hK; apply hK; clear hK)))))) | skip)
      | (intro β)
      | (rename ∀ st, Tri _ _ _ st _ → _ => hK; apply hK; clear hK))
    rename ∀ st, Tri _ _ _ st _ → _ => hK
    have fin3 := fun (st : St) (h : st.n = 152 ∧ UpD r r.dels.length) => hK st ?tail
    case tail =>
      obtain ⟨hn, hD⟩ := h
      have ho : check r = 0 := hck.2 ⟨hs.1, by omega, by omega, by omega, hA.all, hD.all⟩
      rw [ho]
      repeat (first
        | (refine Tri.seq fun K hK => ?_)
        | (refine Tri.region ?_; simp [upd, hn])
        | (refine Tri.draw (by kernel_rfl) (by decide +kernel) ?_; simp [upd, hn])
        | (refine Tri.cond_true ?_ ?_; (focus simp [upd, hn]; done))
        | (refine Tri.cond_false ?_ ?_; (focus simp [upd, hn]; done))
        | (refine Tri.skip ?_; simp only [thenS, blockS])
        | (refine Tri.block_seq ?_)
        | (refine Tri.block_region ?_)
        | (refine Tri.block_cond ?_)
        | (refine Tri.exit ?_; simp [upd, hn]; first | (rename ∀ st, Tri _ _ _ st _ → _ => hK; first | (apply hK; clear hK) | (clear hK; rename ∀ st, Tri _ _ _ st _ → _ => hK; first | (apply hK; clear hK) | (clear hK; rename ∀ st, Tri _ _ _ st _ → _ => hK; first | (apply hK; clear hK) | (clear hK; rename ∀ st, Tri _ _ _ st _ → _ => hK; first | (apply hK; clear hK) | (clear hK; rename ∀ st, Tri _ _ _ st _ → _ => hK; first | (apply hK; clear hK) | (clear hK; rename ∀ st, Tri _ _ _ st _ → _ => hK; apply hK; clear hK)))))) | skip)
        | (intro β)
        | (rename ∀ st, Tri _ _ _ st _ → _ => hK; apply hK; clear hK))
      refine Tri.ret ⟨_, rfl, ?_⟩
      simp [upd]
      exact Wk.refl _
    clear hK
    refine Tri.block (Tri.loop (KInv3 r) r.dels.length ?_ ?_)
    · exact ⟨b1, 0, ⟨rfl, by simp [upd, s1], by simpa using x1⟩, rfl, by simp [upd], ⟨fun k _ h => by omega, fun k l _ _ _ h => by omega⟩⟩
    · clear hn s1 x1
      rintro m st ⟨b1, i, ⟨hn, s1, x1⟩, hm, s6, hP⟩
      by_cases hi : i < r.dels.length
      case neg =>
        have : i = r.dels.length := by omega
        subst this
        repeat (first
          | (refine Tri.seq fun K hK => ?_)
          | (refine Tri.region ?_; simp [upd, hn, s1, x1, s6])
          | (refine Tri.draw (by kernel_rfl) (by decide +kernel) ?_; simp [upd, hn, s1, x1, s6])
          | (refine Tri.cond_true ?_ ?_; (focus simp [upd, hn, s1, x1, s6]; done))
          | (refine Tri.cond_false ?_ ?_; (focus simp [upd, hn, s1, x1, s6]; done))
          | (refine Tri.skip ?_; simp only [thenS, blockS])
          | (refine Tri.block_seq ?_)
          | (refine Tri.block_region ?_)
          | (refine Tri.block_cond ?_)
          | (refine Tri.exit ?_; simp [upd, hn, s1, x1, s6]; first | (rename ∀ st, Tri _ _ _ st _ → _ => hK; first | (apply hK; clear hK) | (clear hK; rename ∀ st, Tri _ _ _ st _ → _ => hK; first | (apply hK; clear hK) | (clear hK; rename ∀ st, Tri _ _ _ st _ → _ => hK; first | (apply hK; clear hK) | (clear hK; rename ∀ st, Tri _ _ _ st _ → _ => hK; first | (apply hK; clear hK) | (clear hK; rename ∀ st, Tri _ _ _ st _ → _ => hK; first | (apply hK; clear hK) | (clear hK; rename ∀ st, Tri _ _ _ st _ → _ => hK; apply hK; clear hK)))))) | skip)
          | (intro β)
          | (rename ∀ st, Tri _ _ _ st _ → _ => hK; apply hK; clear hK))
        apply fin3
        exact ⟨rfl, hP⟩
      have hw1 : IntKind.i64.wrap ((i : Int) + 1) = (i : Int) + 1 := wrap_i64 (by omega) (by omega)
      have hws : IntKind.i64.wrap (r.slots - 1) = r.slots - 1 := wrap_i64 (by omega) (by omega)
      have j1 := in0_does r.dels[i].slot (r.slots - 1) r.slots (by omega)
      have j2 := in0_does r.dels[i].flow 255 256 (by omega)
      have j3 := in0_does r.dels[i].frame 1048575 1048576 (by omega)
      have hok : delOk r.dels[i] r.slots ↔ belowB r.dels[i].slot r.slots = true ∧ belowB r.dels[i].flow 256 = true ∧ belowB r.dels[i].frame 1048576 = true := by
        simp only [delOk, belowB, decide_eq_true_eq]
        omega
      cases c1 : belowB r.dels[i].slot r.slots
      case false =>
        rw [bad_del i hi (fun h => by have := (hok.1 h).1; rw [c1] at this; cases this)]
        repeat (first
          | (refine Tri.seq fun K hK => ?_)
          | (refine Tri.region ?_; simp [upd, hn, s1, x1, s6, hi, hws, c1])
          | (refine Tri.draw (by kernel_rfl) (by decide +kernel) ?_; simp [upd, hn, s1, x1, s6, hi, hws, c1])
          | (refine Tri.cond_true ?_ ?_; (focus simp [upd, hn, s1, x1, s6, hi, hws, c1]; done))
          | (refine Tri.cond_false ?_ ?_; (focus simp [upd, hn, s1, x1, s6, hi, hws, c1]; done))
          | (refine Tri.skip ?_; simp only [thenS, blockS])
          | (refine Tri.block_seq ?_)
          | (refine Tri.block_region ?_)
          | (refine Tri.block_cond ?_)
          | ((with_reducible refine CallK.pure (j1) (Wks.refl _) ?_); simp [upd, hn, s1, x1, s6, hi, hws, c1])
          | ((with_reducible refine CallK.pure (j2) (Wks.refl _) ?_); simp [upd, hn, s1, x1, s6, hi, hws, c1])
          | ((with_reducible refine CallK.pure (j3) (Wks.refl _) ?_); simp [upd, hn, s1, x1, s6, hi, hws, c1])
          | (refine Tri.exit ?_; simp [upd, hn, s1, x1, s6, hi, hws, c1]; first | (rename ∀ st, Tri _ _ _ st _ → _ => hK; first | (apply hK; clear hK) | (clear hK; rename ∀ st, Tri _ _ _ st _ → _ => hK; first | (apply hK; clear hK) | (clear hK; rename ∀ st, Tri _ _ _ st _ → _ => hK; first | (apply hK; clear hK) | (clear hK; rename ∀ st, Tri _ _ _ st _ → _ => hK; first | (apply hK; clear hK) | (clear hK; rename ∀ st, Tri _ _ _ st _ → _ => hK; first | (apply hK; clear hK) | (clear hK; rename ∀ st, Tri _ _ _ st _ → _ => hK; apply hK; clear hK)))))) | skip)
          | (intro β)
          | (rename ∀ st, Tri _ _ _ st _ → _ => hK; apply hK; clear hK))
        refine Tri.ret ⟨_, rfl, ?_⟩
        simp [upd]
        exact Wk.refl _
      cases c2 : belowB r.dels[i].flow 256
      case false =>
        rw [bad_del i hi (fun h => by have := (hok.1 h).2.1; rw [c2] at this; cases this)]
        repeat (first
          | (refine Tri.seq fun K hK => ?_)
          | (refine Tri.region ?_; simp [upd, hn, s1, x1, s6, hi, hws, c1, c2])
          | (refine Tri.draw (by kernel_rfl) (by decide +kernel) ?_; simp [upd, hn, s1, x1, s6, hi, hws, c1, c2])
          | (refine Tri.cond_true ?_ ?_; (focus simp [upd, hn, s1, x1, s6, hi, hws, c1, c2]; done))
          | (refine Tri.cond_false ?_ ?_; (focus simp [upd, hn, s1, x1, s6, hi, hws, c1, c2]; done))
          | (refine Tri.skip ?_; simp only [thenS, blockS])
          | (refine Tri.block_seq ?_)
          | (refine Tri.block_region ?_)
          | (refine Tri.block_cond ?_)
          | ((with_reducible refine CallK.pure (j1) (Wks.refl _) ?_); simp [upd, hn, s1, x1, s6, hi, hws, c1, c2])
          | ((with_reducible refine CallK.pure (j2) (Wks.refl _) ?_); simp [upd, hn, s1, x1, s6, hi, hws, c1, c2])
          | ((with_reducible refine CallK.pure (j3) (Wks.refl _) ?_); simp [upd, hn, s1, x1, s6, hi, hws, c1, c2])
          | (refine Tri.exit ?_; simp [upd, hn, s1, x1, s6, hi, hws, c1, c2]; first | (rename ∀ st, Tri _ _ _ st _ → _ => hK; first | (apply hK; clear hK) | (clear hK; rename ∀ st, Tri _ _ _ st _ → _ => hK; first | (apply hK; clear hK) | (clear hK; rename ∀ st, Tri _ _ _ st _ → _ => hK; first | (apply hK; clear hK) | (clear hK; rename ∀ st, Tri _ _ _ st _ → _ => hK; first | (apply hK; clear hK) | (clear hK; rename ∀ st, Tri _ _ _ st _ → _ => hK; first | (apply hK; clear hK) | (clear hK; rename ∀ st, Tri _ _ _ st _ → _ => hK; apply hK; clear hK)))))) | skip)
          | (intro β)
          | (rename ∀ st, Tri _ _ _ st _ → _ => hK; apply hK; clear hK))
        refine Tri.ret ⟨_, rfl, ?_⟩
        simp [upd]
        exact Wk.refl _
      cases c3 : belowB r.dels[i].frame 1048576
      case false =>
        rw [bad_del i hi (fun h => by have := (hok.1 h).2.2; rw [c3] at this; cases this)]
        repeat (first
          | (refine Tri.seq fun K hK => ?_)
          | (refine Tri.region ?_; simp [upd, hn, s1, x1, s6, hi, hws, c1, c2, c3])
          | (refine Tri.draw (by kernel_rfl) (by decide +kernel) ?_; simp [upd, hn, s1, x1, s6, hi, hws, c1, c2, c3])
          | (refine Tri.cond_true ?_ ?_; (focus simp [upd, hn, s1, x1, s6, hi, hws, c1, c2, c3]; done))
          | (refine Tri.cond_false ?_ ?_; (focus simp [upd, hn, s1, x1, s6, hi, hws, c1, c2, c3]; done))
          | (refine Tri.skip ?_; simp only [thenS, blockS])
          | (refine Tri.block_seq ?_)
          | (refine Tri.block_region ?_)
          | (refine Tri.block_cond ?_)
          | ((with_reducible refine CallK.pure (j1) (Wks.refl _) ?_); simp [upd, hn, s1, x1, s6, hi, hws, c1, c2, c3])
          | ((with_reducible refine CallK.pure (j2) (Wks.refl _) ?_); simp [upd, hn, s1, x1, s6, hi, hws, c1, c2, c3])
          | ((with_reducible refine CallK.pure (j3) (Wks.refl _) ?_); simp [upd, hn, s1, x1, s6, hi, hws, c1, c2, c3])
          | (refine Tri.exit ?_; simp [upd, hn, s1, x1, s6, hi, hws, c1, c2, c3]; first | (rename ∀ st, Tri _ _ _ st _ → _ => hK; first | (apply hK; clear hK) | (clear hK; rename ∀ st, Tri _ _ _ st _ → _ => hK; first | (apply hK; clear hK) | (clear hK; rename ∀ st, Tri _ _ _ st _ → _ => hK; first | (apply hK; clear hK) | (clear hK; rename ∀ st, Tri _ _ _ st _ → _ => hK; first | (apply hK; clear hK) | (clear hK; rename ∀ st, Tri _ _ _ st _ → _ => hK; first | (apply hK; clear hK) | (clear hK; rename ∀ st, Tri _ _ _ st _ → _ => hK; apply hK; clear hK)))))) | skip)
          | (intro β)
          | (rename ∀ st, Tri _ _ _ st _ → _ => hK; apply hK; clear hK))
        refine Tri.ret ⟨_, rfl, ?_⟩
        simp [upd]
        exact Wk.refl _
      have hok := hok.2 ⟨c1, c2, c3⟩
      by_cases hi0 : 0 < i
      case neg =>
        repeat (first
          | (refine Tri.seq fun K hK => ?_)
          | (refine Tri.region ?_; simp [upd, hn, s1, x1, s6, hi, hi0, hws, c1, c2, c3, hw1])
          | (refine Tri.draw (by kernel_rfl) (by decide +kernel) ?_; simp [upd, hn, s1, x1, s6, hi, hi0, hws, c1, c2, c3, hw1])
          | (refine Tri.cond_true ?_ ?_; (focus simp [upd, hn, s1, x1, s6, hi, hi0, hws, c1, c2, c3, hw1]; done))
          | (refine Tri.cond_false ?_ ?_; (focus simp [upd, hn, s1, x1, s6, hi, hi0, hws, c1, c2, c3, hw1]; done))
          | (refine Tri.skip ?_; simp only [thenS, blockS])
          | (refine Tri.block_seq ?_)
          | (refine Tri.block_region ?_)
          | (refine Tri.block_cond ?_)
          | ((with_reducible refine CallK.pure (j1) (Wks.refl _) ?_); simp [upd, hn, s1, x1, s6, hi, hi0, hws, c1, c2, c3, hw1])
          | ((with_reducible refine CallK.pure (j2) (Wks.refl _) ?_); simp [upd, hn, s1, x1, s6, hi, hi0, hws, c1, c2, c3, hw1])
          | ((with_reducible refine CallK.pure (j3) (Wks.refl _) ?_); simp [upd, hn, s1, x1, s6, hi, hi0, hws, c1, c2, c3, hw1])
          | (refine Tri.exit ?_; simp [upd, hn, s1, x1, s6, hi, hi0, hws, c1, c2, c3, hw1]; first | (rename ∀ st, Tri _ _ _ st _ → _ => hK; first | (apply hK; clear hK) | (clear hK; rename ∀ st, Tri _ _ _ st _ → _ => hK; first | (apply hK; clear hK) | (clear hK; rename ∀ st, Tri _ _ _ st _ → _ => hK; first | (apply hK; clear hK) | (clear hK; rename ∀ st, Tri _ _ _ st _ → _ => hK; first | (apply hK; clear hK) | (clear hK; rename ∀ st, Tri _ _ _ st _ → _ => hK; first | (apply hK; clear hK) | (clear hK; rename ∀ st, Tri _ _ _ st _ → _ => hK; apply hK; clear hK)))))) | skip)
          | (intro β)
          | (rename ∀ st, Tri _ _ _ st _ → _ => hK; apply hK; clear hK))
        exact ⟨m - 1, by omega, b1, i + 1, ⟨rfl, by simp [upd, s1], by simpa using x1⟩, by omega, by simp [upd], hP.succ hi hok fun k hk hki => by omega⟩
      obtain ⟨p, hp⟩ : ∃ p, p = i - 1 := ⟨i - 1, rfl⟩
      have hpl : p < r.dels.length := by omega
      have hwp : IntKind.i64.wrap ((i : Int) - 1) = (p : Int) := by rw [wrap_i64 (by omega) (by omega)]; omega
      by_cases e1 : r.dels[i].slot < r.dels[p].slot
      · rw [bad_dpair i p hi (by omega) (fun h => by unfold ltD at h; omega)]
        repeat (first
          | (refine Tri.seq fun K hK => ?_)
          | (refine Tri.region ?_; simp [upd, hn, s1, x1, s6, hi, hi0, hws, c1, c2, c3, hw1, hwp, hpl, e1])
          | (refine Tri.draw (by kernel_rfl) (by decide +kernel) ?_; simp [upd, hn, s1, x1, s6, hi, hi0, hws, c1, c2, c3, hw1, hwp, hpl, e1])
          | (refine Tri.cond_true ?_ ?_; (focus simp [upd, hn, s1, x1, s6, hi, hi0, hws, c1, c2, c3, hw1, hwp, hpl, e1]; done))
          | (refine Tri.cond_false ?_ ?_; (focus simp [upd, hn, s1, x1, s6, hi, hi0, hws, c1, c2, c3, hw1, hwp, hpl, e1]; done))
          | (refine Tri.skip ?_; simp only [thenS, blockS])
          | (refine Tri.block_seq ?_)
          | (refine Tri.block_region ?_)
          | (refine Tri.block_cond ?_)
          | ((with_reducible refine CallK.pure (j1) (Wks.refl _) ?_); simp [upd, hn, s1, x1, s6, hi, hi0, hws, c1, c2, c3, hw1, hwp, hpl, e1])
          | ((with_reducible refine CallK.pure (j2) (Wks.refl _) ?_); simp [upd, hn, s1, x1, s6, hi, hi0, hws, c1, c2, c3, hw1, hwp, hpl, e1])
          | ((with_reducible refine CallK.pure (j3) (Wks.refl _) ?_); simp [upd, hn, s1, x1, s6, hi, hi0, hws, c1, c2, c3, hw1, hwp, hpl, e1])
          | (refine Tri.exit ?_; simp [upd, hn, s1, x1, s6, hi, hi0, hws, c1, c2, c3, hw1, hwp, hpl, e1]; first | (rename ∀ st, Tri _ _ _ st _ → _ => hK; first | (apply hK; clear hK) | (clear hK; rename ∀ st, Tri _ _ _ st _ → _ => hK; first | (apply hK; clear hK) | (clear hK; rename ∀ st, Tri _ _ _ st _ → _ => hK; first | (apply hK; clear hK) | (clear hK; rename ∀ st, Tri _ _ _ st _ → _ => hK; first | (apply hK; clear hK) | (clear hK; rename ∀ st, Tri _ _ _ st _ → _ => hK; first | (apply hK; clear hK) | (clear hK; rename ∀ st, Tri _ _ _ st _ → _ => hK; apply hK; clear hK)))))) | skip)
          | (intro β)
          | (rename ∀ st, Tri _ _ _ st _ → _ => hK; apply hK; clear hK))
        refine Tri.ret ⟨_, rfl, ?_⟩
        simp [upd]
        exact Wk.refl _
      cases e2 : (r.dels[i].slot == r.dels[p].slot)
      case false =>
        have hl : ltD r.dels[p] r.dels[i] := by
          simp only [beq_eq_false_iff_ne, ne_eq] at e2
          left; omega
        repeat (first
          | (refine Tri.seq fun K hK => ?_)
          | (refine Tri.region ?_; simp [upd, hn, s1, x1, s6, hi, hi0, hws, c1, c2, c3, hw1, hwp, hpl, e1, e2])
          | (refine Tri.draw (by kernel_rfl) (by decide +kernel) ?_; simp [upd, hn, s1, x1, s6, hi, hi0, hws, c1, c2, c3, hw1, hwp, hpl, e1, e2])
          | (refine Tri.cond_true ?_ ?_; (focus simp [upd, hn, s1, x1, s6, hi, hi0, hws, c1, c2, c3, hw1, hwp, hpl, e1, e2]; done))
          | (refine Tri.cond_false ?_ ?_; (focus simp [upd, hn, s1, x1, s6, hi, hi0, hws, c1, c2, c3, hw1, hwp, hpl, e1, e2]; done))
          | (refine Tri.skip ?_; simp only [thenS, blockS])
          | (refine Tri.block_seq ?_)
          | (refine Tri.block_region ?_)
          | (refine Tri.block_cond ?_)
          | ((with_reducible refine CallK.pure (j1) (Wks.refl _) ?_); simp [upd, hn, s1, x1, s6, hi, hi0, hws, c1, c2, c3, hw1, hwp, hpl, e1, e2])
          | ((with_reducible refine CallK.pure (j2) (Wks.refl _) ?_); simp [upd, hn, s1, x1, s6, hi, hi0, hws, c1, c2, c3, hw1, hwp, hpl, e1, e2])
          | ((with_reducible refine CallK.pure (j3) (Wks.refl _) ?_); simp [upd, hn, s1, x1, s6, hi, hi0, hws, c1, c2, c3, hw1, hwp, hpl, e1, e2])
          | (refine Tri.exit ?_; simp [upd, hn, s1, x1, s6, hi, hi0, hws, c1, c2, c3, hw1, hwp, hpl, e1, e2]; first | (rename ∀ st, Tri _ _ _ st _ → _ => hK; first | (apply hK; clear hK) | (clear hK; rename ∀ st, Tri _ _ _ st _ → _ => hK; first | (apply hK; clear hK) | (clear hK; rename ∀ st, Tri _ _ _ st _ → _ => hK; first | (apply hK; clear hK) | (clear hK; rename ∀ st, Tri _ _ _ st _ → _ => hK; first | (apply hK; clear hK) | (clear hK; rename ∀ st, Tri _ _ _ st _ → _ => hK; first | (apply hK; clear hK) | (clear hK; rename ∀ st, Tri _ _ _ st _ → _ => hK; apply hK; clear hK)))))) | skip)
          | (intro β)
          | (rename ∀ st, Tri _ _ _ st _ → _ => hK; apply hK; clear hK))
        exact ⟨m - 1, by omega, b1, i + 1, ⟨rfl, by simp [upd, s1], by simpa using x1⟩, by omega, by simp [upd], hP.succ hi hok fun k hk hki => by
          rcases Nat.lt_or_eq_of_le (show k ≤ p by omega) with h' | rfl
          · exact ltD_trans (hP.2 k p hk hpl h' (by omega)) hl
          · exact hl⟩
      by_cases e3 : r.dels[i].flow ≤ r.dels[p].flow
      · rw [bad_dpair i p hi (by omega) (fun h => by simp only [beq_iff_eq] at e2; unfold ltD at h; omega)]
        repeat (first
          | (refine Tri.seq fun K hK => ?_)
          | (refine Tri.region ?_; simp [upd, hn, s1, x1, s6, hi, hi0, hws, c1, c2, c3, hw1, hwp, hpl, e1, e2, e3])
          | (refine Tri.draw (by kernel_rfl) (by decide +kernel) ?_; simp [upd, hn, s1, x1, s6, hi, hi0, hws, c1, c2, c3, hw1, hwp, hpl, e1, e2, e3])
          | (refine Tri.cond_true ?_ ?_; (focus simp [upd, hn, s1, x1, s6, hi, hi0, hws, c1, c2, c3, hw1, hwp, hpl, e1, e2, e3]; done))
          | (refine Tri.cond_false ?_ ?_; (focus simp [upd, hn, s1, x1, s6, hi, hi0, hws, c1, c2, c3, hw1, hwp, hpl, e1, e2, e3]; done))
          | (refine Tri.skip ?_; simp only [thenS, blockS])
          | (refine Tri.block_seq ?_)
          | (refine Tri.block_region ?_)
          | (refine Tri.block_cond ?_)
          | ((with_reducible refine CallK.pure (j1) (Wks.refl _) ?_); simp [upd, hn, s1, x1, s6, hi, hi0, hws, c1, c2, c3, hw1, hwp, hpl, e1, e2, e3])
          | ((with_reducible refine CallK.pure (j2) (Wks.refl _) ?_); simp [upd, hn, s1, x1, s6, hi, hi0, hws, c1, c2, c3, hw1, hwp, hpl, e1, e2, e3])
          | ((with_reducible refine CallK.pure (j3) (Wks.refl _) ?_); simp [upd, hn, s1, x1, s6, hi, hi0, hws, c1, c2, c3, hw1, hwp, hpl, e1, e2, e3])
          | (refine Tri.exit ?_; simp [upd, hn, s1, x1, s6, hi, hi0, hws, c1, c2, c3, hw1, hwp, hpl, e1, e2, e3]; first | (rename ∀ st, Tri _ _ _ st _ → _ => hK; first | (apply hK; clear hK) | (clear hK; rename ∀ st, Tri _ _ _ st _ → _ => hK; first | (apply hK; clear hK) | (clear hK; rename ∀ st, Tri _ _ _ st _ → _ => hK; first | (apply hK; clear hK) | (clear hK; rename ∀ st, Tri _ _ _ st _ → _ => hK; first | (apply hK; clear hK) | (clear hK; rename ∀ st, Tri _ _ _ st _ → _ => hK; first | (apply hK; clear hK) | (clear hK; rename ∀ st, Tri _ _ _ st _ → _ => hK; apply hK; clear hK)))))) | skip)
          | (intro β)
          | (rename ∀ st, Tri _ _ _ st _ → _ => hK; apply hK; clear hK))
        refine Tri.ret ⟨_, rfl, ?_⟩
        simp [upd]
        exact Wk.refl _
      have hl : ltD r.dels[p] r.dels[i] := by
        simp only [beq_iff_eq] at e2
        right; omega
      repeat (first
        | (refine Tri.seq fun K hK => ?_)
        | (refine Tri.region ?_; simp [upd, hn, s1, x1, s6, hi, hi0, hws, c1, c2, c3, hw1, hwp, hpl, e1, e2, e3])
        | (refine Tri.draw (by kernel_rfl) (by decide +kernel) ?_; simp [upd, hn, s1, x1, s6, hi, hi0, hws, c1, c2, c3, hw1, hwp, hpl, e1, e2, e3])
        | (refine Tri.cond_true ?_ ?_; (focus simp [upd, hn, s1, x1, s6, hi, hi0, hws, c1, c2, c3, hw1, hwp, hpl, e1, e2, e3]; done))
        | (refine Tri.cond_false ?_ ?_; (focus simp [upd, hn, s1, x1, s6, hi, hi0, hws, c1, c2, c3, hw1, hwp, hpl, e1, e2, e3]; done))
        | (refine Tri.skip ?_; simp only [thenS, blockS])
        | (refine Tri.block_seq ?_)
        | (refine Tri.block_region ?_)
        | (refine Tri.block_cond ?_)
        | ((with_reducible refine CallK.pure (j1) (Wks.refl _) ?_); simp [upd, hn, s1, x1, s6, hi, hi0, hws, c1, c2, c3, hw1, hwp, hpl, e1, e2, e3])
        | ((with_reducible refine CallK.pure (j2) (Wks.refl _) ?_); simp [upd, hn, s1, x1, s6, hi, hi0, hws, c1, c2, c3, hw1, hwp, hpl, e1, e2, e3])
        | ((with_reducible refine CallK.pure (j3) (Wks.refl _) ?_); simp [upd, hn, s1, x1, s6, hi, hi0, hws, c1, c2, c3, hw1, hwp, hpl, e1, e2, e3])
        | (refine Tri.exit ?_; simp [upd, hn, s1, x1, s6, hi, hi0, hws, c1, c2, c3, hw1, hwp, hpl, e1, e2, e3]; first | (rename ∀ st, Tri _ _ _ st _ → _ => hK; first | (apply hK; clear hK) | (clear hK; rename ∀ st, Tri _ _ _ st _ → _ => hK; first | (apply hK; clear hK) | (clear hK; rename ∀ st, Tri _ _ _ st _ → _ => hK; first | (apply hK; clear hK) | (clear hK; rename ∀ st, Tri _ _ _ st _ → _ => hK; first | (apply hK; clear hK) | (clear hK; rename ∀ st, Tri _ _ _ st _ → _ => hK; first | (apply hK; clear hK) | (clear hK; rename ∀ st, Tri _ _ _ st _ → _ => hK; apply hK; clear hK)))))) | skip)
        | (intro β)
        | (rename ∀ st, Tri _ _ _ st _ → _ => hK; apply hK; clear hK))
      exact ⟨m - 1, by omega, b1, i + 1, ⟨rfl, by simp [upd, s1], by simpa using x1⟩, by omega, by simp [upd], hP.succ hi hok fun k hk hki => by
        rcases Nat.lt_or_eq_of_le (show k ≤ p by omega) with h' | rfl
        · exact ltD_trans (hP.2 k p hk hpl h' (by omega)) hl
        · exact hl⟩
  clear hK
  refine Tri.block (Tri.loop (KInv1 r) r.atts.length ?_ ?_)
  · exact ⟨_, 0, ⟨rfl, by simp [upd] <;> exact rfl, by simp [upd] <;> exact rfl⟩, rfl, by simp [upd], ⟨fun k _ h => by omega, fun k l _ _ _ h => by omega⟩⟩
  · rintro m st ⟨b1, i, ⟨hn, s1, x1⟩, hm, s3, hP⟩
    by_cases hi : i < r.atts.length
    case neg =>
      have : i = r.atts.length := by omega
      subst this
      repeat (first
        | (refine Tri.seq fun K hK => ?_)
        | (refine Tri.region ?_; simp [upd, hn, s1, x1, s3])
        | (refine Tri.draw (by kernel_rfl) (by decide +kernel) ?_; simp [upd, hn, s1, x1, s3])
        | (refine Tri.cond_true ?_ ?_; (focus simp [upd, hn, s1, x1, s3]; done))
        | (refine Tri.cond_false ?_ ?_; (focus simp [upd, hn, s1, x1, s3]; done))
        | (refine Tri.skip ?_; simp only [thenS, blockS])
        | (refine Tri.block_seq ?_)
        | (refine Tri.block_region ?_)
        | (refine Tri.block_cond ?_)
        | (refine Tri.exit ?_; simp [upd, hn, s1, x1, s3]; first | (rename ∀ st, Tri _ _ _ st _ → _ => hK; first | (apply hK; clear hK) | (clear hK; rename ∀ st, Tri _ _ _ st _ → _ => hK; first | (apply hK; clear hK) | (clear hK; rename ∀ st, Tri _ _ _ st _ → _ => hK; first | (apply hK; clear hK) | (clear hK; rename ∀ st, Tri _ _ _ st _ → _ => hK; first | (apply hK; clear hK) | (clear hK; rename ∀ st, Tri _ _ _ st _ → _ => hK; first | (apply hK; clear hK) | (clear hK; rename ∀ st, Tri _ _ _ st _ → _ => hK; apply hK; clear hK)))))) | skip)
        | (intro β)
        | (rename ∀ st, Tri _ _ _ st _ → _ => hK; apply hK; clear hK))
      apply fin
      exact ⟨b1, ⟨rfl, by simp [upd, s1], by simpa using x1⟩, hP⟩
    have l49 := attR_does r r.atts[i] hs.1 (by omega)
    simp only [recC] at l49
    have hw1 : IntKind.i64.wrap ((i : Int) + 1) = (i : Int) + 1 := wrap_i64 (by omega) (by omega)
    have hwm : IntKind.i64.wrap ((i : Int) - 1) = (i : Int) - 1 := wrap_i64 (by omega) (by omega)
    cases c1 : attOk r.atts[i] r.slots
    case false =>
      rw [bad_att i hi c1]
      repeat (first
        | (refine Tri.seq fun K hK => ?_)
        | (refine Tri.region ?_; simp [upd, hn, s1, x1, s3, hi, c1])
        | (refine Tri.draw (by kernel_rfl) (by decide +kernel) ?_; simp [upd, hn, s1, x1, s3, hi, c1])
        | (refine Tri.cond_true ?_ ?_; (focus simp [upd, hn, s1, x1, s3, hi, c1]; done))
        | (refine Tri.cond_false ?_ ?_; (focus simp [upd, hn, s1, x1, s3, hi, c1]; done))
        | (refine Tri.skip ?_; simp only [thenS, blockS])
        | (refine Tri.block_seq ?_)
        | (refine Tri.block_region ?_)
        | (refine Tri.block_cond ?_)
        | ((with_reducible refine CallK.pure (l49) (Wks.refl _) ?_); simp [upd, hn, s1, x1, s3, hi, c1])
        | (refine Tri.exit ?_; simp [upd, hn, s1, x1, s3, hi, c1]; first | (rename ∀ st, Tri _ _ _ st _ → _ => hK; first | (apply hK; clear hK) | (clear hK; rename ∀ st, Tri _ _ _ st _ → _ => hK; first | (apply hK; clear hK) | (clear hK; rename ∀ st, Tri _ _ _ st _ → _ => hK; first | (apply hK; clear hK) | (clear hK; rename ∀ st, Tri _ _ _ st _ → _ => hK; first | (apply hK; clear hK) | (clear hK; rename ∀ st, Tri _ _ _ st _ → _ => hK; first | (apply hK; clear hK) | (clear hK; rename ∀ st, Tri _ _ _ st _ → _ => hK; apply hK; clear hK)))))) | skip)
        | (intro β)
        | (rename ∀ st, Tri _ _ _ st _ → _ => hK; apply hK; clear hK))
      refine Tri.ret ⟨_, rfl, ?_⟩
      simp [upd]
      exact Wk.refl _
    by_cases hi0 : 0 < i
    case neg =>
      have hlt : ∀ k (_ : k < r.atts.length), k < i → ltA r.atts[k] r.atts[i] := fun k _ h => by omega
      repeat (first
        | (refine Tri.seq fun K hK => ?_)
        | (refine Tri.region ?_; simp [upd, hn, s1, x1, s3, hi, hi0, c1, hwm])
        | (refine Tri.draw (by kernel_rfl) (by decide +kernel) ?_; simp [upd, hn, s1, x1, s3, hi, hi0, c1, hwm])
        | (refine Tri.cond_true ?_ ?_; (focus simp [upd, hn, s1, x1, s3, hi, hi0, c1, hwm]; done))
        | (refine Tri.cond_false ?_ ?_; (focus simp [upd, hn, s1, x1, s3, hi, hi0, c1, hwm]; done))
        | (refine Tri.skip ?_; simp only [thenS, blockS])
        | (refine Tri.block_seq ?_)
        | (refine Tri.block_region ?_)
        | (refine Tri.block_cond ?_)
        | ((with_reducible refine CallK.pure (l49) (Wks.refl _) ?_); simp [upd, hn, s1, x1, s3, hi, hi0, c1, hwm])
        | (refine Tri.exit ?_; simp [upd, hn, s1, x1, s3, hi, hi0, c1, hwm]; first | (rename ∀ st, Tri _ _ _ st _ → _ => hK; first | (apply hK; clear hK) | (clear hK; rename ∀ st, Tri _ _ _ st _ → _ => hK; first | (apply hK; clear hK) | (clear hK; rename ∀ st, Tri _ _ _ st _ → _ => hK; first | (apply hK; clear hK) | (clear hK; rename ∀ st, Tri _ _ _ st _ → _ => hK; first | (apply hK; clear hK) | (clear hK; rename ∀ st, Tri _ _ _ st _ → _ => hK; first | (apply hK; clear hK) | (clear hK; rename ∀ st, Tri _ _ _ st _ → _ => hK; apply hK; clear hK)))))) | skip)
        | (intro β)
        | (rename ∀ st, Tri _ _ _ st _ → _ => hK; apply hK; clear hK))
      rename ∀ st, Tri _ _ _ st _ → _ => hK
      have fin2 := fun (st : St) (h : KEnd2 r i r.atts[i] st) => hK st ?tail
      case tail =>
        clear s3 s1 x1 hn hK
        obtain ⟨b1, ⟨hn, s1, x1⟩, s3, hno⟩ := h
        repeat (first
          | (refine Tri.seq fun K hK => ?_)
          | (refine Tri.region ?_; simp [upd, hn, s1, x1, s3, hw1])
          | (refine Tri.draw (by kernel_rfl) (by decide +kernel) ?_; simp [upd, hn, s1, x1, s3, hw1])
          | (refine Tri.cond_true ?_ ?_; (focus simp [upd, hn, s1, x1, s3, hw1]; done))
          | (refine Tri.cond_false ?_ ?_; (focus simp [upd, hn, s1, x1, s3, hw1]; done))
          | (refine Tri.skip ?_; simp only [thenS, blockS])
          | (refine Tri.block_seq ?_)
          | (refine Tri.block_region ?_)
          | (refine Tri.block_cond ?_)
          | (refine Tri.exit ?_; simp [upd, hn, s1, x1, s3, hw1]; first | (rename ∀ st, Tri _ _ _ st _ → _ => hK; first | (apply hK; clear hK) | (clear hK; rename ∀ st, Tri _ _ _ st _ → _ => hK; first | (apply hK; clear hK) | (clear hK; rename ∀ st, Tri _ _ _ st _ → _ => hK; first | (apply hK; clear hK) | (clear hK; rename ∀ st, Tri _ _ _ st _ → _ => hK; first | (apply hK; clear hK) | (clear hK; rename ∀ st, Tri _ _ _ st _ → _ => hK; first | (apply hK; clear hK) | (clear hK; rename ∀ st, Tri _ _ _ st _ → _ => hK; apply hK; clear hK)))))) | skip)
          | (intro β)
          | (rename ∀ st, Tri _ _ _ st _ → _ => hK; apply hK; clear hK))
        exact ⟨m - 1, by omega, b1, i + 1, ⟨rfl, by simp [upd, s1], by simpa using x1⟩, by omega, by simp [upd], hP.succ hi c1 fun k hk hki => ⟨hlt k hk hki, hno k hk hki⟩⟩
      clear hK
      refine Tri.block (Tri.loop (KInv2 r i β r.atts[i]) i ?_ ?_)
      · exact ⟨b1, (i : Int) - 1, ⟨rfl, by simp [upd, s1], by simp [x1]⟩, by simp [upd], by simp, by simp [upd, s3], by simp [upd, hwm] <;> omega, by omega, by omega, fun k hk h1 h2 => by omega⟩
      · clear hn s1 x1 s3
        rintro m2 st ⟨b1, j, ⟨hn, s1, x1⟩, s4, x4, s3, s5, hmj, hji, hno⟩
        by_cases hj0 : 0 ≤ j
        case neg =>
          repeat (first
            | (refine Tri.seq fun K hK => ?_)
            | (refine Tri.region ?_; simp [upd, hn, s1, x1, s4, x4, s3, s5, hj0])
            | (refine Tri.draw (by kernel_rfl) (by decide +kernel) ?_; simp [upd, hn, s1, x1, s4, x4, s3, s5, hj0])
            | (refine Tri.cond_true ?_ ?_; (focus simp [upd, hn, s1, x1, s4, x4, s3, s5, hj0]; done))
            | (refine Tri.cond_false ?_ ?_; (focus simp [upd, hn, s1, x1, s4, x4, s3, s5, hj0]; done))
            | (refine Tri.skip ?_; simp only [thenS, blockS])
            | (refine Tri.block_seq ?_)
            | (refine Tri.block_region ?_)
            | (refine Tri.block_cond ?_)
            | (refine Tri.exit ?_; simp [upd, hn, s1, x1, s4, x4, s3, s5, hj0]; first | (rename ∀ st, Tri _ _ _ st _ → _ => hK; first | (apply hK; clear hK) | (clear hK; rename ∀ st, Tri _ _ _ st _ → _ => hK; first | (apply hK; clear hK) | (clear hK; rename ∀ st, Tri _ _ _ st _ → _ => hK; first | (apply hK; clear hK) | (clear hK; rename ∀ st, Tri _ _ _ st _ → _ => hK; first | (apply hK; clear hK) | (clear hK; rename ∀ st, Tri _ _ _ st _ → _ => hK; first | (apply hK; clear hK) | (clear hK; rename ∀ st, Tri _ _ _ st _ → _ => hK; apply hK; clear hK)))))) | skip)
            | (intro β)
            | (rename ∀ st, Tri _ _ _ st _ → _ => hK; apply hK; clear hK))
          apply fin2
          exact ⟨b1, ⟨rfl, by simp [upd, s1], by simpa using x1⟩, by simp [upd, s3], fun k hk hki h => hno k hk (by omega) hki h.2⟩
        obtain ⟨j, rfl⟩ := Int.eq_ofNat_of_zero_le hj0
        have hjl : j < r.atts.length := by omega
        have hnw : IntKind.i64.wrap ((j : Int) - 1) = (j : Int) - 1 := wrap_i64 (by omega) (by omega)
        cases c3 : (r.atts[j].slot == r.atts[i].slot)
        case false =>
          repeat (first
            | (refine Tri.seq fun K hK => ?_)
            | (refine Tri.region ?_; simp [upd, hn, s1, x1, s4, x4, s3, s5, hj0, hjl, c3])
            | (refine Tri.draw (by kernel_rfl) (by decide +kernel) ?_; simp [upd, hn, s1, x1, s4, x4, s3, s5, hj0, hjl, c3])
            | (refine Tri.cond_true ?_ ?_; (focus simp [upd, hn, s1, x1, s4, x4, s3, s5, hj0, hjl, c3]; done))
            | (refine Tri.cond_false ?_ ?_; (focus simp [upd, hn, s1, x1, s4, x4, s3, s5, hj0, hjl, c3]; done))
            | (refine Tri.skip ?_; simp only [thenS, blockS])
            | (refine Tri.block_seq ?_)
            | (refine Tri.block_region ?_)
            | (refine Tri.block_cond ?_)
            | (refine Tri.exit ?_; simp [upd, hn, s1, x1, s4, x4, s3, s5, hj0, hjl, c3]; first | (rename ∀ st, Tri _ _ _ st _ → _ => hK; first | (apply hK; clear hK) | (clear hK; rename ∀ st, Tri _ _ _ st _ → _ => hK; first | (apply hK; clear hK) | (clear hK; rename ∀ st, Tri _ _ _ st _ → _ => hK; first | (apply hK; clear hK) | (clear hK; rename ∀ st, Tri _ _ _ st _ → _ => hK; first | (apply hK; clear hK) | (clear hK; rename ∀ st, Tri _ _ _ st _ → _ => hK; first | (apply hK; clear hK) | (clear hK; rename ∀ st, Tri _ _ _ st _ → _ => hK; apply hK; clear hK)))))) | skip)
            | (intro β)
            | (rename ∀ st, Tri _ _ _ st _ → _ => hK; apply hK; clear hK))
          apply fin2
          refine ⟨b1, ⟨rfl, by simp [upd, s1], by simpa using x1⟩, by simp [upd, s3], fun k hk hki h => ?_⟩
          rcases Nat.lt_or_ge j k with h' | h'
          · exact hno k hk (by omega) hki h.2
          · have h1 : r.atts[j].slot ≤ r.atts[i].slot := ltA_slot (hlt j hjl (by omega))
            have h2 : r.atts[k].slot ≤ r.atts[j].slot := by
              rcases Nat.lt_or_eq_of_le h' with h'' | rfl
              · exact ltA_slot (hP.2 k j hk hjl h'' (by omega)).1
              · exact Int.le_refl _
            simp only [beq_eq_false_iff_ne, ne_eq] at c3
            omega
        cases c4 : (r.atts[j].frm == r.atts[i].frm)
        case true =>
          rw [bad_pair i j hi (by omega) (fun h => h.2 ⟨by simpa using c3, by simpa using c4⟩)]
          repeat (first
            | (refine Tri.seq fun K hK => ?_)
            | (refine Tri.region ?_; simp [upd, hn, s1, x1, s4, x4, s3, s5, hj0, hjl, c3, c4])
            | (refine Tri.draw (by kernel_rfl) (by decide +kernel) ?_; simp [upd, hn, s1, x1, s4, x4, s3, s5, hj0, hjl, c3, c4])
            | (refine Tri.cond_true ?_ ?_; (focus simp [upd, hn, s1, x1, s4, x4, s3, s5, hj0, hjl, c3, c4]; done))
            | (refine Tri.cond_false ?_ ?_; (focus simp [upd, hn, s1, x1, s4, x4, s3, s5, hj0, hjl, c3, c4]; done))
            | (refine Tri.skip ?_; simp only [thenS, blockS])
            | (refine Tri.block_seq ?_)
            | (refine Tri.block_region ?_)
            | (refine Tri.block_cond ?_)
            | (refine Tri.exit ?_; simp [upd, hn, s1, x1, s4, x4, s3, s5, hj0, hjl, c3, c4]; first | (rename ∀ st, Tri _ _ _ st _ → _ => hK; first | (apply hK; clear hK) | (clear hK; rename ∀ st, Tri _ _ _ st _ → _ => hK; first | (apply hK; clear hK) | (clear hK; rename ∀ st, Tri _ _ _ st _ → _ => hK; first | (apply hK; clear hK) | (clear hK; rename ∀ st, Tri _ _ _ st _ → _ => hK; first | (apply hK; clear hK) | (clear hK; rename ∀ st, Tri _ _ _ st _ → _ => hK; first | (apply hK; clear hK) | (clear hK; rename ∀ st, Tri _ _ _ st _ → _ => hK; apply hK; clear hK)))))) | skip)
            | (intro β)
            | (rename ∀ st, Tri _ _ _ st _ → _ => hK; apply hK; clear hK))
          refine Tri.ret ⟨_, rfl, ?_⟩
          simp [upd]
          exact Wk.refl _
        repeat (first
          | (refine Tri.seq fun K hK => ?_)
          | (refine Tri.region ?_; simp [upd, hn, s1, x1, s4, x4, s3, s5, hj0, hjl, c3, c4, hnw])
          | (refine Tri.draw (by kernel_rfl) (by decide +kernel) ?_; simp [upd, hn, s1, x1, s4, x4, s3, s5, hj0, hjl, c3, c4, hnw])
          | (refine Tri.cond_true ?_ ?_; (focus simp [upd, hn, s1, x1, s4, x4, s3, s5, hj0, hjl, c3, c4, hnw]; done))
          | (refine Tri.cond_false ?_ ?_; (focus simp [upd, hn, s1, x1, s4, x4, s3, s5, hj0, hjl, c3, c4, hnw]; done))
          | (refine Tri.skip ?_; simp only [thenS, blockS])
          | (refine Tri.block_seq ?_)
          | (refine Tri.block_region ?_)
          | (refine Tri.block_cond ?_)
          | (refine Tri.exit ?_; simp [upd, hn, s1, x1, s4, x4, s3, s5, hj0, hjl, c3, c4, hnw]; first | (rename ∀ st, Tri _ _ _ st _ → _ => hK; first | (apply hK; clear hK) | (clear hK; rename ∀ st, Tri _ _ _ st _ → _ => hK; first | (apply hK; clear hK) | (clear hK; rename ∀ st, Tri _ _ _ st _ → _ => hK; first | (apply hK; clear hK) | (clear hK; rename ∀ st, Tri _ _ _ st _ → _ => hK; first | (apply hK; clear hK) | (clear hK; rename ∀ st, Tri _ _ _ st _ → _ => hK; first | (apply hK; clear hK) | (clear hK; rename ∀ st, Tri _ _ _ st _ → _ => hK; apply hK; clear hK)))))) | skip)
          | (intro β)
          | (rename ∀ st, Tri _ _ _ st _ → _ => hK; apply hK; clear hK))
        refine ⟨m2 - 1, by omega, b1, (j : Int) - 1, ⟨rfl, by simp [upd, s1], by simpa using x1⟩, by simp [upd, s4], by simpa using x4, by simp [upd, s3], by simp [upd], by omega, by omega, fun k hk h1 h2 => ?_⟩
        by_cases hkj : k = j
        · subst hkj; simpa using c4
        · exact hno k hk (by omega) h2
    obtain ⟨p, hp⟩ : ∃ p, p = i - 1 := ⟨i - 1, rfl⟩
    have hpl : p < r.atts.length := by omega
    have hwp : IntKind.i64.wrap ((i : Int) - 1) = (p : Int) := by rw [hwm]; omega
    have l50 := less_does r.atts[p] r.atts[i]
    cases c2 : decide (cmpA r.atts[p] r.atts[i] < 0)
    case false =>
      rw [bad_pair i p hi (by omega) (fun h => by have := (cmpA_lt _ _).2 h.1; simp at c2; omega)]
      rw [c2] at l50
      repeat (first
        | (refine Tri.seq fun K hK => ?_)
        | (refine Tri.region ?_; simp [upd, hn, s1, x1, s3, hi, hi0, c1, hwp, hpl])
        | (refine Tri.draw (by kernel_rfl) (by decide +kernel) ?_; simp [upd, hn, s1, x1, s3, hi, hi0, c1, hwp, hpl])
        | (refine Tri.cond_true ?_ ?_; (focus simp [upd, hn, s1, x1, s3, hi, hi0, c1, hwp, hpl]; done))
        | (refine Tri.cond_false ?_ ?_; (focus simp [upd, hn, s1, x1, s3, hi, hi0, c1, hwp, hpl]; done))
        | (refine Tri.skip ?_; simp only [thenS, blockS])
        | (refine Tri.block_seq ?_)
        | (refine Tri.block_region ?_)
        | (refine Tri.block_cond ?_)
        | ((with_reducible refine CallK.pure (l49) (Wks.refl _) ?_); simp [upd, hn, s1, x1, s3, hi, hi0, c1, hwp, hpl])
        | ((with_reducible refine CallK.pure (l50) (Wks.refl _) ?_); simp [upd, hn, s1, x1, s3, hi, hi0, c1, hwp, hpl])
        | (refine Tri.exit ?_; simp [upd, hn, s1, x1, s3, hi, hi0, c1, hwp, hpl]; first | (rename ∀ st, Tri _ _ _ st _ → _ => hK; first | (apply hK; clear hK) | (clear hK; rename ∀ st, Tri _ _ _ st _ → _ => hK; first | (apply hK; clear hK) | (clear hK; rename ∀ st, Tri _ _ _ st _ → _ => hK; first | (apply hK; clear hK) | (clear hK; rename ∀ st, Tri _ _ _ st _ → _ => hK; first | (apply hK; clear hK) | (clear hK; rename ∀ st, Tri _ _ _ st _ → _ => hK; first | (apply hK; clear hK) | (clear hK; rename ∀ st, Tri _ _ _ st _ → _ => hK; apply hK; clear hK)))))) | skip)
        | (intro β)
        | (rename ∀ st, Tri _ _ _ st _ → _ => hK; apply hK; clear hK))
      refine Tri.ret ⟨_, rfl, ?_⟩
      simp [upd]
      exact Wk.refl _
    have hlt : ∀ k (_ : k < r.atts.length), k < i → ltA r.atts[k] r.atts[i] := by
      have hip : i = p + 1 := by omega
      subst hip
      exact hP.ltA hi (by simpa using c2)
    rw [c2] at l50
    repeat (first
      | (refine Tri.seq fun K hK => ?_)
      | (refine Tri.region ?_; simp [upd, hn, s1, x1, s3, hi, hi0, c1, hwp, hpl])
      | (refine Tri.draw (by kernel_rfl) (by decide +kernel) ?_; simp [upd, hn, s1, x1, s3, hi, hi0, c1, hwp, hpl])
      | (refine Tri.cond_true ?_ ?_; (focus simp [upd, hn, s1, x1, s3, hi, hi0, c1, hwp, hpl]; done))
      | (refine Tri.cond_false ?_ ?_; (focus simp [upd, hn, s1, x1, s3, hi, hi0, c1, hwp, hpl]; done))
      | (refine Tri.skip ?_; simp only [thenS, blockS])
      | (refine Tri.block_seq ?_)
      | (refine Tri.block_region ?_)
      | (refine Tri.block_cond ?_)
      | ((with_reducible refine CallK.pure (l49) (Wks.refl _) ?_); simp [upd, hn, s1, x1, s3, hi, hi0, c1, hwp, hpl])
      | ((with_reducible refine CallK.pure (l50) (Wks.refl _) ?_); simp [upd, hn, s1, x1, s3, hi, hi0, c1, hwp, hpl])
      | (refine Tri.exit ?_; simp [upd, hn, s1, x1, s3, hi, hi0, c1, hwp, hpl]; first | (rename ∀ st, Tri _ _ _ st _ → _ => hK; first | (apply hK; clear hK) | (clear hK; rename ∀ st, Tri _ _ _ st _ → _ => hK; first | (apply hK; clear hK) | (clear hK; rename ∀ st, Tri _ _ _ st _ → _ => hK; first | (apply hK; clear hK) | (clear hK; rename ∀ st, Tri _ _ _ st _ → _ => hK; first | (apply hK; clear hK) | (clear hK; rename ∀ st, Tri _ _ _ st _ → _ => hK; first | (apply hK; clear hK) | (clear hK; rename ∀ st, Tri _ _ _ st _ → _ => hK; apply hK; clear hK)))))) | skip)
      | (intro β)
      | (rename ∀ st, Tri _ _ _ st _ → _ => hK; apply hK; clear hK))
    rename ∀ st, Tri _ _ _ st _ → _ => hK
    have fin2 := fun (st : St) (h : KEnd2 r i r.atts[i] st) => hK st ?tail
    case tail =>
      clear s3 s1 x1 hn hK
      obtain ⟨b1, ⟨hn, s1, x1⟩, s3, hno⟩ := h
      repeat (first
        | (refine Tri.seq fun K hK => ?_)
        | (refine Tri.region ?_; simp [upd, hn, s1, x1, s3, hw1])
        | (refine Tri.draw (by kernel_rfl) (by decide +kernel) ?_; simp [upd, hn, s1, x1, s3, hw1])
        | (refine Tri.cond_true ?_ ?_; (focus simp [upd, hn, s1, x1, s3, hw1]; done))
        | (refine Tri.cond_false ?_ ?_; (focus simp [upd, hn, s1, x1, s3, hw1]; done))
        | (refine Tri.skip ?_; simp only [thenS, blockS])
        | (refine Tri.block_seq ?_)
        | (refine Tri.block_region ?_)
        | (refine Tri.block_cond ?_)
        | (refine Tri.exit ?_; simp [upd, hn, s1, x1, s3, hw1]; first | (rename ∀ st, Tri _ _ _ st _ → _ => hK; first | (apply hK; clear hK) | (clear hK; rename ∀ st, Tri _ _ _ st _ → _ => hK; first | (apply hK; clear hK) | (clear hK; rename ∀ st, Tri _ _ _ st _ → _ => hK; first | (apply hK; clear hK) | (clear hK; rename ∀ st, Tri _ _ _ st _ → _ => hK; first | (apply hK; clear hK) | (clear hK; rename ∀ st, Tri _ _ _ st _ → _ => hK; first | (apply hK; clear hK) | (clear hK; rename ∀ st, Tri _ _ _ st _ → _ => hK; apply hK; clear hK)))))) | skip)
        | (intro β)
        | (rename ∀ st, Tri _ _ _ st _ → _ => hK; apply hK; clear hK))
      exact ⟨m - 1, by omega, b1, i + 1, ⟨rfl, by simp [upd, s1], by simpa using x1⟩, by omega, by simp [upd], hP.succ hi c1 fun k hk hki => ⟨hlt k hk hki, hno k hk hki⟩⟩
    clear hK
    refine Tri.block (Tri.loop (KInv2 r i β r.atts[i]) i ?_ ?_)
    · exact ⟨b1, (i : Int) - 1, ⟨rfl, by simp [upd, s1], by simp [x1]⟩, by simp [upd], by simp, by simp [upd, s3], by simp [upd, hwp] <;> omega, by omega, by omega, fun k hk h1 h2 => by omega⟩
    · clear hn s1 x1 s3
      rintro m2 st ⟨b1, j, ⟨hn, s1, x1⟩, s4, x4, s3, s5, hmj, hji, hno⟩
      by_cases hj0 : 0 ≤ j
      case neg =>
        repeat (first
          | (refine Tri.seq fun K hK => ?_)
          | (refine Tri.region ?_; simp [upd, hn, s1, x1, s4, x4, s3, s5, hj0])
          | (refine Tri.draw (by kernel_rfl) (by decide +kernel) ?_; simp [upd, hn, s1, x1, s4, x4, s3, s5, hj0])
          | (refine Tri.cond_true ?_ ?_; (focus simp [upd, hn, s1, x1, s4, x4, s3, s5, hj0]; done))
          | (refine Tri.cond_false ?_ ?_; (focus simp [upd, hn, s1, x1, s4, x4, s3, s5, hj0]; done))
          | (refine Tri.skip ?_; simp only [thenS, blockS])
          | (refine Tri.block_seq ?_)
          | (refine Tri.block_region ?_)
          | (refine Tri.block_cond ?_)
          | (refine Tri.exit ?_; simp [upd, hn, s1, x1, s4, x4, s3, s5, hj0]; first | (rename ∀ st, Tri _ _ _ st _ → _ => hK; first | (apply hK; clear hK) | (clear hK; rename ∀ st, Tri _ _ _ st _ → _ => hK; first | (apply hK; clear hK) | (clear hK; rename ∀ st, Tri _ _ _ st _ → _ => hK; first | (apply hK; clear hK) | (clear hK; rename ∀ st, Tri _ _ _ st _ → _ => hK; first | (apply hK; clear hK) | (clear hK; rename ∀ st, Tri _ _ _ st _ → _ => hK; first | (apply hK; clear hK) | (clear hK; rename ∀ st, Tri _ _ _ st _ → _ => hK; apply hK; clear hK)))))) | skip)
          | (intro β)
          | (rename ∀ st, Tri _ _ _ st _ → _ => hK; apply hK; clear hK))
        apply fin2
        exact ⟨b1, ⟨rfl, by simp [upd, s1], by simpa using x1⟩, by simp [upd, s3], fun k hk hki h => hno k hk (by omega) hki h.2⟩
      obtain ⟨j, rfl⟩ := Int.eq_ofNat_of_zero_le hj0
      have hjl : j < r.atts.length := by omega
      have hnw : IntKind.i64.wrap ((j : Int) - 1) = (j : Int) - 1 := wrap_i64 (by omega) (by omega)
      cases c3 : (r.atts[j].slot == r.atts[i].slot)
      case false =>
        repeat (first
          | (refine Tri.seq fun K hK => ?_)
          | (refine Tri.region ?_; simp [upd, hn, s1, x1, s4, x4, s3, s5, hj0, hjl, c3])
          | (refine Tri.draw (by kernel_rfl) (by decide +kernel) ?_; simp [upd, hn, s1, x1, s4, x4, s3, s5, hj0, hjl, c3])
          | (refine Tri.cond_true ?_ ?_; (focus simp [upd, hn, s1, x1, s4, x4, s3, s5, hj0, hjl, c3]; done))
          | (refine Tri.cond_false ?_ ?_; (focus simp [upd, hn, s1, x1, s4, x4, s3, s5, hj0, hjl, c3]; done))
          | (refine Tri.skip ?_; simp only [thenS, blockS])
          | (refine Tri.block_seq ?_)
          | (refine Tri.block_region ?_)
          | (refine Tri.block_cond ?_)
          | (refine Tri.exit ?_; simp [upd, hn, s1, x1, s4, x4, s3, s5, hj0, hjl, c3]; first | (rename ∀ st, Tri _ _ _ st _ → _ => hK; first | (apply hK; clear hK) | (clear hK; rename ∀ st, Tri _ _ _ st _ → _ => hK; first | (apply hK; clear hK) | (clear hK; rename ∀ st, Tri _ _ _ st _ → _ => hK; first | (apply hK; clear hK) | (clear hK; rename ∀ st, Tri _ _ _ st _ → _ => hK; first | (apply hK; clear hK) | (clear hK; rename ∀ st, Tri _ _ _ st _ → _ => hK; first | (apply hK; clear hK) | (clear hK; rename ∀ st, Tri _ _ _ st _ → _ => hK; apply hK; clear hK)))))) | skip)
          | (intro β)
          | (rename ∀ st, Tri _ _ _ st _ → _ => hK; apply hK; clear hK))
        apply fin2
        refine ⟨b1, ⟨rfl, by simp [upd, s1], by simpa using x1⟩, by simp [upd, s3], fun k hk hki h => ?_⟩
        rcases Nat.lt_or_ge j k with h' | h'
        · exact hno k hk (by omega) hki h.2
        · have h1 : r.atts[j].slot ≤ r.atts[i].slot := ltA_slot (hlt j hjl (by omega))
          have h2 : r.atts[k].slot ≤ r.atts[j].slot := by
            rcases Nat.lt_or_eq_of_le h' with h'' | rfl
            · exact ltA_slot (hP.2 k j hk hjl h'' (by omega)).1
            · exact Int.le_refl _
          simp only [beq_eq_false_iff_ne, ne_eq] at c3
          omega
      cases c4 : (r.atts[j].frm == r.atts[i].frm)
      case true =>
        rw [bad_pair i j hi (by omega) (fun h => h.2 ⟨by simpa using c3, by simpa using c4⟩)]
        repeat (first
          | (refine Tri.seq fun K hK => ?_)
          | (refine Tri.region ?_; simp [upd, hn, s1, x1, s4, x4, s3, s5, hj0, hjl, c3, c4])
          | (refine Tri.draw (by kernel_rfl) (by decide +kernel) ?_; simp [upd, hn, s1, x1, s4, x4, s3, s5, hj0, hjl, c3, c4])
          | (refine Tri.cond_true ?_ ?_; (focus simp [upd, hn, s1, x1, s4, x4, s3, s5, hj0, hjl, c3, c4]; done))
          | (refine Tri.cond_false ?_ ?_; (focus simp [upd, hn, s1, x1, s4, x4, s3, s5, hj0, hjl, c3, c4]; done))
          | (refine Tri.skip ?_; simp only [thenS, blockS])
          | (refine Tri.block_seq ?_)
          | (refine Tri.block_region ?_)
          | (refine Tri.block_cond ?_)
          | (refine Tri.exit ?_; simp [upd, hn, s1, x1, s4, x4, s3, s5, hj0, hjl, c3, c4]; first | (rename ∀ st, Tri _ _ _ st _ → _ => hK; first | (apply hK; clear hK) | (clear hK; rename ∀ st, Tri _ _ _ st _ → _ => hK; first | (apply hK; clear hK) | (clear hK; rename ∀ st, Tri _ _ _ st _ → _ => hK; first | (apply hK; clear hK) | (clear hK; rename ∀ st, Tri _ _ _ st _ → _ => hK; first | (apply hK; clear hK) | (clear hK; rename ∀ st, Tri _ _ _ st _ → _ => hK; first | (apply hK; clear hK) | (clear hK; rename ∀ st, Tri _ _ _ st _ → _ => hK; apply hK; clear hK)))))) | skip)
          | (intro β)
          | (rename ∀ st, Tri _ _ _ st _ → _ => hK; apply hK; clear hK))
        refine Tri.ret ⟨_, rfl, ?_⟩
        simp [upd]
        exact Wk.refl _
      repeat (first
        | (refine Tri.seq fun K hK => ?_)
        | (refine Tri.region ?_; simp [upd, hn, s1, x1, s4, x4, s3, s5, hj0, hjl, c3, c4, hnw])
        | (refine Tri.draw (by kernel_rfl) (by decide +kernel) ?_; simp [upd, hn, s1, x1, s4, x4, s3, s5, hj0, hjl, c3, c4, hnw])
        | (refine Tri.cond_true ?_ ?_; (focus simp [upd, hn, s1, x1, s4, x4, s3, s5, hj0, hjl, c3, c4, hnw]; done))
        | (refine Tri.cond_false ?_ ?_; (focus simp [upd, hn, s1, x1, s4, x4, s3, s5, hj0, hjl, c3, c4, hnw]; done))
        | (refine Tri.skip ?_; simp only [thenS, blockS])
        | (refine Tri.block_seq ?_)
        | (refine Tri.block_region ?_)
        | (refine Tri.block_cond ?_)
        | (refine Tri.exit ?_; simp [upd, hn, s1, x1, s4, x4, s3, s5, hj0, hjl, c3, c4, hnw]; first | (rename ∀ st, Tri _ _ _ st _ → _ => hK; first | (apply hK; clear hK) | (clear hK; rename ∀ st, Tri _ _ _ st _ → _ => hK; first | (apply hK; clear hK) | (clear hK; rename ∀ st, Tri _ _ _ st _ → _ => hK; first | (apply hK; clear hK) | (clear hK; rename ∀ st, Tri _ _ _ st _ → _ => hK; first | (apply hK; clear hK) | (clear hK; rename ∀ st, Tri _ _ _ st _ → _ => hK; first | (apply hK; clear hK) | (clear hK; rename ∀ st, Tri _ _ _ st _ → _ => hK; apply hK; clear hK)))))) | skip)
        | (intro β)
        | (rename ∀ st, Tri _ _ _ st _ → _ => hK; apply hK; clear hK))
      refine ⟨m2 - 1, by omega, b1, (j : Int) - 1, ⟨rfl, by simp [upd, s1], by simpa using x1⟩, by simp [upd, s4], by simpa using x4, by simp [upd, s3], by simp [upd], by omega, by omega, fun k hk h1 h2 => ?_⟩
      by_cases hkj : k = j
      · subst hkj; simpa using c4
      · exact hno k hk (by omega) h2
end Go.Proofs.Ytcohdlochpjnjaa
end
section
open Go Go.Vm
namespace Go.Proofs.Ytcohdlochpjnjaa
set_option maxRecDepth 100000
set_option maxHeartbeats 4000000
set_option linter.unusedSimpArgs false
def anyA (s : Int) (l : List Att) : Bool := l.any fun x => decide (x.slot < s)
def anyD (s : Int) (l : List Del) : Bool := l.any fun x => decide (x.slot < s)
def early (a b : Rec) : Bool := decide (b.slots < a.slots) || (anyA a.slots b.atts || anyD a.slots b.dels)
def join (a b : Rec) : Rec × Int := if check a = 0 ∧ check b = 0 then (if early a b = true then (zrec, 11) else (⟨b.slots, (a.atts ++ b.atts).isEmpty, a.atts ++ b.atts, (a.dels ++ b.dels).isEmpty, a.dels ++ b.dels⟩, 0)) else (zrec, 1)
def joinR (a b : Rec) : Rec × Int := if check a = 0 ∧ check b = 0 then (if early a b = true then (zrec, 11) else (⟨b.slots, false, a.atts ++ b.atts, false, a.dels ++ b.dels⟩, 0)) else (zrec, 1)
theorem anyA_head' (s : Int) : ∀ (l : List Att) (h0 : 0 < l.length), l.Pairwise okA → anyA s l = decide (l[0].slot < s)
  | [], h0, _ => by simp at h0
  | y :: l, h0, hp => by
    unfold anyA
    have hp := (List.pairwise_cons.1 hp).1
    simp only [List.getElem_cons_zero]
    by_cases hy : y.slot < s
    · simp [hy]
    · rw [decide_eq_false hy, List.any_eq_false]
      intro x hx
      rcases List.mem_cons.1 hx with rfl | hx
      · simpa using hy
      · have := ltA_slot (hp x hx).1
        simp; omega
theorem anyA_head {r : Rec} (h : InOrder r) (s : Int) (h0 : 0 < r.atts.length) : anyA s r.atts = decide (r.atts[0].slot < s) := anyA_head' s _ h0 h.atts.2
theorem anyD_head' (s : Int) : ∀ (l : List Del) (h0 : 0 < l.length), l.Pairwise ltD → anyD s l = decide (l[0].slot < s)
  | [], h0, _ => by simp at h0
  | y :: l, h0, hp => by
    unfold anyD
    have hp := (List.pairwise_cons.1 hp).1
    simp only [List.getElem_cons_zero]
    by_cases hy : y.slot < s
    · simp [hy]
    · rw [decide_eq_false hy, List.any_eq_false]
      intro x hx
      rcases List.mem_cons.1 hx with rfl | hx
      · simpa using hy
      · have := hp x hx
        unfold ltD at this
        simp; omega
theorem anyD_head {r : Rec} (h : InOrder r) (s : Int) (h0 : 0 < r.dels.length) : anyD s r.dels = decide (r.dels[0].slot < s) := anyD_head' s _ h0 h.dels.2
attribute [local irreducible] Tri Does DoesB Rounds check sameB anyA anyD
theorem containsA2 (s : Int) (b : Nat) (G H : C) (l : List Att) (nl : Bool) (hl : l.length ≤ 1073741824) :
    DoesB Try.prog 52 [.c (.sl nl 8 none (l.map attC)), .c (.fn 53 [.box 100 b 0])] [(100, b, [.int .i64 s, G, H])] [] (fun _ => (.c (.bool (anyA s l)), [(100, b, [.int .i64 s, G, H])], [])) := by
  unfold anyA
  exact containsA 53 _ b _ (fun x => cloA x b s G H) l nl hl
theorem containsD2 (s : Int) (b : Nat) (G H : C) (l : List Del) (nl : Bool) (hl : l.length ≤ 1073741824) :
    DoesB Try.prog 54 [.c (.sl nl 3 none (l.map delC)), .c (.fn 55 [.box 100 b 0])] [(100, b, [.int .i64 s, G, H])] [] (fun _ => (.c (.bool (anyD s l)), [(100, b, [.int .i64 s, G, H])], [])) := by
  unfold anyD
  exact containsD 55 _ b _ (fun x => cloD x b s G H) l nl hl
theorem join_does (a b : Rec) (ha1 : a.atts.length ≤ 1073741824) (ha2 : a.dels.length ≤ 1073741824) (hb1 : b.atts.length ≤ 1073741824) (hb2 : b.dels.length ≤ 1073741824) : Does Try.prog 32 [.agg (recC a), .agg (recC b)] (.tup [.agg (recC (join a b).1), .c (.int .i64 (join a b).2)]) := by
  refine Does.of_body Try.func32 rfl (by kernel_rfl) rfl rfl (by simp) ?_
  intro E
  have wZ : Wk (.agg [.int .i64 0, .sl true 0 none [], .sl true 0 none []]) (.agg (recC zrec)) := .agg3 (.refl _) (.nil _ _ _ _) (.nil _ _ _ _)
  have k1 := check_does a
  have k2 := check_does b
  have l1 := concatA a.atts b.atts a.an b.an ha1 hb1
  have l2 := concatD a.dels b.dels a.dn b.dn ha2 hb2
  cases c1 : (check a == 0)
  case false =>
    have e : join a b = (zrec, 1) := by rw [join, if_neg (fun h => by simp [h.1] at c1)]
    rw [e]
    simp only [recC] at k1 k2 l1 l2 ⊢
    repeat (first
      | (refine Tri.seq fun K hK => ?_)
      | (refine Tri.region ?_; simp [upd, c1, bne])
      | (refine Tri.draw (by kernel_rfl) (by decide +kernel) ?_; simp [upd, c1, bne])
      | (refine Tri.cond_true ?_ ?_; (focus simp [upd, c1, bne]; done))
      | (refine Tri.cond_false ?_ ?_; (focus simp [upd, c1, bne]; done))
      | (refine Tri.skip ?_; simp only [thenS, blockS])
      | (refine Tri.block_seq ?_)
      | (refine Tri.block_region ?_)
      | (refine Tri.block_cond ?_)
      | ((with_reducible refine CallK.pure (k1) (Wks.refl _) ?_); simp [upd, c1, bne])
      | ((with_reducible refine CallK.pure (k2) (Wks.refl _) ?_); simp [upd, c1, bne])
      | (refine CallK.look 2 (containsA2 a.slots _ (.sl a.an 8 none (a.atts.map attC)) (.sl a.dn 3 none (a.dels.map delC)) b.atts b.an hb1) ⟨.refl _, .fn1 _ (.box _ _ _ _), trivial⟩ ?_ ?_; (focus (exact rfl)); simp [upd, c1, bne])
      | (refine CallK.look 2 (containsD2 a.slots _ (.sl a.an 8 none (a.atts.map attC)) (.sl a.dn 3 none (a.dels.map delC)) b.dels b.dn hb2) ⟨.refl _, .fn1 _ (.box _ _ _ _), trivial⟩ ?_ ?_; (focus (exact rfl)); simp [upd, c1, bne])
      | (refine Tri.exit ?_; simp [upd, c1, bne]; first | (rename ∀ st, Tri _ _ _ st _ → _ => hK; first | (apply hK; clear hK) | (clear hK; rename ∀ st, Tri _ _ _ st _ → _ => hK; first | (apply hK; clear hK) | (clear hK; rename ∀ st, Tri _ _ _ st _ → _ => hK; first | (apply hK; clear hK) | (clear hK; rename ∀ st, Tri _ _ _ st _ → _ => hK; first | (apply hK; clear hK) | (clear hK; rename ∀ st, Tri _ _ _ st _ → _ => hK; first | (apply hK; clear hK) | (clear hK; rename ∀ st, Tri _ _ _ st _ → _ => hK; apply hK; clear hK)))))) | skip)
      | (intro β)
      | (rename ∀ st, Tri _ _ _ st _ → _ => hK; apply hK; clear hK))
    refine Tri.ret ⟨.tup [.agg [.int .i64 0, .sl true 0 none [], .sl true 0 none []], .c (.int .i64 1)], by simp [upd], ?_⟩
    exact .tup2 wZ (.refl _)
  cases c2 : (check b == 0)
  case false =>
    have e : join a b = (zrec, 1) := by rw [join, if_neg (fun h => by simp [h.2] at c2)]
    rw [e]
    simp only [recC] at k1 k2 l1 l2 ⊢
    repeat (first
      | (refine Tri.seq fun K hK => ?_)
      | (refine Tri.region ?_; simp [upd, c1, c2, bne])
      | (refine Tri.draw (by kernel_rfl) (by decide +kernel) ?_; simp [upd, c1, c2, bne])
      | (refine Tri.cond_true ?_ ?_; (focus simp [upd, c1, c2, bne]; done))
      | (refine Tri.cond_false ?_ ?_; (focus simp [upd, c1, c2, bne]; done))
      | (refine Tri.skip ?_; simp only [thenS, blockS])
      | (refine Tri.block_seq ?_)
      | (refine Tri.block_region ?_)
      | (refine Tri.block_cond ?_)
      | ((with_reducible refine CallK.pure (k1) (Wks.refl _) ?_); simp [upd, c1, c2, bne])
      | ((with_reducible refine CallK.pure (k2) (Wks.refl _) ?_); simp [upd, c1, c2, bne])
      | (refine CallK.look 2 (containsA2 a.slots _ (.sl a.an 8 none (a.atts.map attC)) (.sl a.dn 3 none (a.dels.map delC)) b.atts b.an hb1) ⟨.refl _, .fn1 _ (.box _ _ _ _), trivial⟩ ?_ ?_; (focus (exact rfl)); simp [upd, c1, c2, bne])
      | (refine CallK.look 2 (containsD2 a.slots _ (.sl a.an 8 none (a.atts.map attC)) (.sl a.dn 3 none (a.dels.map delC)) b.dels b.dn hb2) ⟨.refl _, .fn1 _ (.box _ _ _ _), trivial⟩ ?_ ?_; (focus (exact rfl)); simp [upd, c1, c2, bne])
      | (refine Tri.exit ?_; simp [upd, c1, c2, bne]; first | (rename ∀ st, Tri _ _ _ st _ → _ => hK; first | (apply hK; clear hK) | (clear hK; rename ∀ st, Tri _ _ _ st _ → _ => hK; first | (apply hK; clear hK) | (clear hK; rename ∀ st, Tri _ _ _ st _ → _ => hK; first | (apply hK; clear hK) | (clear hK; rename ∀ st, Tri _ _ _ st _ → _ => hK; first | (apply hK; clear hK) | (clear hK; rename ∀ st, Tri _ _ _ st _ → _ => hK; first | (apply hK; clear hK) | (clear hK; rename ∀ st, Tri _ _ _ st _ → _ => hK; apply hK; clear hK)))))) | skip)
      | (intro β)
      | (rename ∀ st, Tri _ _ _ st _ → _ => hK; apply hK; clear hK))
    refine Tri.ret ⟨.tup [.agg [.int .i64 0, .sl true 0 none [], .sl true 0 none []], .c (.int .i64 1)], by simp [upd], ?_⟩
    exact .tup2 wZ (.refl _)
  have hc : check a = 0 ∧ check b = 0 := ⟨by simpa using c1, by simpa using c2⟩
  by_cases g1 : b.slots < a.slots
  · have e : join a b = (zrec, 11) := by rw [join, if_pos hc, if_pos (by simp [early, g1])]
    rw [e]
    simp only [recC] at k1 k2 l1 l2 ⊢
    repeat (first
      | (refine Tri.seq fun K hK => ?_)
      | (refine Tri.region ?_; simp [upd, c1, c2, g1, bne])
      | (refine Tri.draw (by kernel_rfl) (by decide +kernel) ?_; simp [upd, c1, c2, g1, bne])
      | (refine Tri.cond_true ?_ ?_; (focus simp [upd, c1, c2, g1, bne]; done))
      | (refine Tri.cond_false ?_ ?_; (focus simp [upd, c1, c2, g1, bne]; done))
      | (refine Tri.skip ?_; simp only [thenS, blockS])
      | (refine Tri.block_seq ?_)
      | (refine Tri.block_region ?_)
      | (refine Tri.block_cond ?_)
      | ((with_reducible refine CallK.pure (k1) (Wks.refl _) ?_); simp [upd, c1, c2, g1, bne])
      | ((with_reducible refine CallK.pure (k2) (Wks.refl _) ?_); simp [upd, c1, c2, g1, bne])
      | (refine CallK.look 2 (containsA2 a.slots _ (.sl a.an 8 none (a.atts.map attC)) (.sl a.dn 3 none (a.dels.map delC)) b.atts b.an hb1) ⟨.refl _, .fn1 _ (.box _ _ _ _), trivial⟩ ?_ ?_; (focus (exact rfl)); simp [upd, c1, c2, g1, bne])
      | (refine CallK.look 2 (containsD2 a.slots _ (.sl a.an 8 none (a.atts.map attC)) (.sl a.dn 3 none (a.dels.map delC)) b.dels b.dn hb2) ⟨.refl _, .fn1 _ (.box _ _ _ _), trivial⟩ ?_ ?_; (focus (exact rfl)); simp [upd, c1, c2, g1, bne])
      | (refine Tri.exit ?_; simp [upd, c1, c2, g1, bne]; first | (rename ∀ st, Tri _ _ _ st _ → _ => hK; first | (apply hK; clear hK) | (clear hK; rename ∀ st, Tri _ _ _ st _ → _ => hK; first | (apply hK; clear hK) | (clear hK; rename ∀ st, Tri _ _ _ st _ → _ => hK; first | (apply hK; clear hK) | (clear hK; rename ∀ st, Tri _ _ _ st _ → _ => hK; first | (apply hK; clear hK) | (clear hK; rename ∀ st, Tri _ _ _ st _ → _ => hK; first | (apply hK; clear hK) | (clear hK; rename ∀ st, Tri _ _ _ st _ → _ => hK; apply hK; clear hK)))))) | skip)
      | (intro β)
      | (rename ∀ st, Tri _ _ _ st _ → _ => hK; apply hK; clear hK))
    refine Tri.ret ⟨.tup [.agg [.int .i64 0, .sl true 0 none [], .sl true 0 none []], .c (.int .i64 11)], by simp [upd], ?_⟩
    exact .tup2 wZ (.refl _)
  cases g2 : anyA a.slots b.atts
  case true =>
    have e : join a b = (zrec, 11) := by rw [join, if_pos hc, if_pos (by simp [early, g2])]
    rw [e]
    simp only [recC] at k1 k2 l1 l2 ⊢
    repeat (first
      | (refine Tri.seq fun K hK => ?_)
      | (refine Tri.region ?_; simp [upd, c1, c2, g1, g2, bne])
      | (refine Tri.draw (by kernel_rfl) (by decide +kernel) ?_; simp [upd, c1, c2, g1, g2, bne])
      | (refine Tri.cond_true ?_ ?_; (focus simp [upd, c1, c2, g1, g2, bne]; done))
      | (refine Tri.cond_false ?_ ?_; (focus simp [upd, c1, c2, g1, g2, bne]; done))
      | (refine Tri.skip ?_; simp only [thenS, blockS])
      | (refine Tri.block_seq ?_)
      | (refine Tri.block_region ?_)
      | (refine Tri.block_cond ?_)
      | ((with_reducible refine CallK.pure (k1) (Wks.refl _) ?_); simp [upd, c1, c2, g1, g2, bne])
      | ((with_reducible refine CallK.pure (k2) (Wks.refl _) ?_); simp [upd, c1, c2, g1, g2, bne])
      | (refine CallK.look 2 (containsA2 a.slots _ (.sl a.an 8 none (a.atts.map attC)) (.sl a.dn 3 none (a.dels.map delC)) b.atts b.an hb1) ⟨.refl _, .fn1 _ (.box _ _ _ _), trivial⟩ ?_ ?_; (focus (exact rfl)); simp [upd, c1, c2, g1, g2, bne])
      | (refine CallK.look 2 (containsD2 a.slots _ (.sl a.an 8 none (a.atts.map attC)) (.sl a.dn 3 none (a.dels.map delC)) b.dels b.dn hb2) ⟨.refl _, .fn1 _ (.box _ _ _ _), trivial⟩ ?_ ?_; (focus (exact rfl)); simp [upd, c1, c2, g1, g2, bne])
      | (refine Tri.exit ?_; simp [upd, c1, c2, g1, g2, bne]; first | (rename ∀ st, Tri _ _ _ st _ → _ => hK; first | (apply hK; clear hK) | (clear hK; rename ∀ st, Tri _ _ _ st _ → _ => hK; first | (apply hK; clear hK) | (clear hK; rename ∀ st, Tri _ _ _ st _ → _ => hK; first | (apply hK; clear hK) | (clear hK; rename ∀ st, Tri _ _ _ st _ → _ => hK; first | (apply hK; clear hK) | (clear hK; rename ∀ st, Tri _ _ _ st _ → _ => hK; first | (apply hK; clear hK) | (clear hK; rename ∀ st, Tri _ _ _ st _ → _ => hK; apply hK; clear hK)))))) | skip)
      | (intro β)
      | (rename ∀ st, Tri _ _ _ st _ → _ => hK; apply hK; clear hK))
    refine Tri.ret ⟨.tup [.agg [.int .i64 0, .sl true 0 none [], .sl true 0 none []], .c (.int .i64 11)], by simp [upd], ?_⟩
    exact .tup2 wZ (.refl _)
  cases g3 : anyD a.slots b.dels
  case true =>
    have e : join a b = (zrec, 11) := by rw [join, if_pos hc, if_pos (by simp [early, g3])]
    rw [e]
    simp only [recC] at k1 k2 l1 l2 ⊢
    repeat (first
      | (refine Tri.seq fun K hK => ?_)
      | (refine Tri.region ?_; simp [upd, c1, c2, g1, g2, g3, bne])
      | (refine Tri.draw (by kernel_rfl) (by decide +kernel) ?_; simp [upd, c1, c2, g1, g2, g3, bne])
      | (refine Tri.cond_true ?_ ?_; (focus simp [upd, c1, c2, g1, g2, g3, bne]; done))
      | (refine Tri.cond_false ?_ ?_; (focus simp [upd, c1, c2, g1, g2, g3, bne]; done))
      | (refine Tri.skip ?_; simp only [thenS, blockS])
      | (refine Tri.block_seq ?_)
      | (refine Tri.block_region ?_)
      | (refine Tri.block_cond ?_)
      | ((with_reducible refine CallK.pure (k1) (Wks.refl _) ?_); simp [upd, c1, c2, g1, g2, g3, bne])
      | ((with_reducible refine CallK.pure (k2) (Wks.refl _) ?_); simp [upd, c1, c2, g1, g2, g3, bne])
      | (refine CallK.look 2 (containsA2 a.slots _ (.sl a.an 8 none (a.atts.map attC)) (.sl a.dn 3 none (a.dels.map delC)) b.atts b.an hb1) ⟨.refl _, .fn1 _ (.box _ _ _ _), trivial⟩ ?_ ?_; (focus (exact rfl)); simp [upd, c1, c2, g1, g2, g3, bne])
      | (refine CallK.look 2 (containsD2 a.slots _ (.sl a.an 8 none (a.atts.map attC)) (.sl a.dn 3 none (a.dels.map delC)) b.dels b.dn hb2) ⟨.refl _, .fn1 _ (.box _ _ _ _), trivial⟩ ?_ ?_; (focus (exact rfl)); simp [upd, c1, c2, g1, g2, g3, bne])
      | (refine Tri.exit ?_; simp [upd, c1, c2, g1, g2, g3, bne]; first | (rename ∀ st, Tri _ _ _ st _ → _ => hK; first | (apply hK; clear hK) | (clear hK; rename ∀ st, Tri _ _ _ st _ → _ => hK; first | (apply hK; clear hK) | (clear hK; rename ∀ st, Tri _ _ _ st _ → _ => hK; first | (apply hK; clear hK) | (clear hK; rename ∀ st, Tri _ _ _ st _ → _ => hK; first | (apply hK; clear hK) | (clear hK; rename ∀ st, Tri _ _ _ st _ → _ => hK; first | (apply hK; clear hK) | (clear hK; rename ∀ st, Tri _ _ _ st _ → _ => hK; apply hK; clear hK)))))) | skip)
      | (intro β)
      | (rename ∀ st, Tri _ _ _ st _ → _ => hK; apply hK; clear hK))
    refine Tri.ret ⟨.tup [.agg [.int .i64 0, .sl true 0 none [], .sl true 0 none []], .c (.int .i64 11)], by simp [upd], ?_⟩
    exact .tup2 wZ (.refl _)
  have e : join a b = (⟨b.slots, (a.atts ++ b.atts).isEmpty, a.atts ++ b.atts, (a.dels ++ b.dels).isEmpty, a.dels ++ b.dels⟩, 0) := by rw [join, if_pos hc, if_neg (by simp [early, g1, g2, g3])]
  rw [e]
  generalize a.atts ++ b.atts = ab at *
  generalize a.dels ++ b.dels = db at *
  simp only [recC] at k1 k2 l1 l2 ⊢
  repeat (first
    | (refine Tri.seq fun K hK => ?_)
    | (refine Tri.region ?_; simp [upd, c1, c2, g1, g2, g3, bne])
    | (refine Tri.draw (by kernel_rfl) (by decide +kernel) ?_; simp [upd, c1, c2, g1, g2, g3, bne])
    | (refine Tri.cond_true ?_ ?_; (focus simp [upd, c1, c2, g1, g2, g3, bne]; done))
    | (refine Tri.cond_false ?_ ?_; (focus simp [upd, c1, c2, g1, g2, g3, bne]; done))
    | (refine Tri.skip ?_; simp only [thenS, blockS])
    | (refine Tri.block_seq ?_)
    | (refine Tri.block_region ?_)
    | (refine Tri.block_cond ?_)
    | ((with_reducible refine CallK.pure (k1) (Wks.refl _) ?_); simp [upd, c1, c2, g1, g2, g3, bne])
    | ((with_reducible refine CallK.pure (k2) (Wks.refl _) ?_); simp [upd, c1, c2, g1, g2, g3, bne])
    | ((with_reducible refine CallK.pure (l1) (Wks.refl _) ?_); simp [upd, c1, c2, g1, g2, g3, bne])
    | ((with_reducible refine CallK.pure (l2) (Wks.refl _) ?_); simp [upd, c1, c2, g1, g2, g3, bne])
    | (refine CallK.look 2 (containsA2 a.slots _ (.sl a.an 8 none (a.atts.map attC)) (.sl a.dn 3 none (a.dels.map delC)) b.atts b.an hb1) ⟨.refl _, .fn1 _ (.box _ _ _ _), trivial⟩ ?_ ?_; (focus (exact rfl)); simp [upd, c1, c2, g1, g2, g3, bne])
    | (refine CallK.look 2 (containsD2 a.slots _ (.sl a.an 8 none (a.atts.map attC)) (.sl a.dn 3 none (a.dels.map delC)) b.dels b.dn hb2) ⟨.refl _, .fn1 _ (.box _ _ _ _), trivial⟩ ?_ ?_; (focus (exact rfl)); simp [upd, c1, c2, g1, g2, g3, bne])
    | (refine Tri.exit ?_; simp [upd, c1, c2, g1, g2, g3, bne]; first | (rename ∀ st, Tri _ _ _ st _ → _ => hK; first | (apply hK; clear hK) | (clear hK; rename ∀ st, Tri _ _ _ st _ → _ => hK; first | (apply hK; clear hK) | (clear hK; rename ∀ st, Tri _ _ _ st _ → _ => hK; first | (apply hK; clear hK) | (clear hK; rename ∀ st, Tri _ _ _ st _ → _ => hK; first | (apply hK; clear hK) | (clear hK; rename ∀ st, Tri _ _ _ st _ → _ => hK; first | (apply hK; clear hK) | (clear hK; rename ∀ st, Tri _ _ _ st _ → _ => hK; apply hK; clear hK)))))) | skip)
    | (intro β)
    | (rename ∀ st, Tri _ _ _ st _ → _ => hK; apply hK; clear hK))
  refine Tri.ret ⟨_, by simp [upd] <;> exact rfl, ?_⟩
  exact Wk.refl _
theorem joinR_does (a b : Rec) (ha1 : a.atts.length ≤ 1073741824) (ha2 : a.dels.length ≤ 1073741824) (hb1 : b.atts.length ≤ 1073741824) (hb2 : b.dels.length ≤ 1073741824) : Does Try.prog 33 [.agg (recC a), .agg (recC b)] (.tup [.agg (recC (joinR a b).1), .c (.int .i64 (joinR a b).2)]) := by
  refine Does.of_body Try.func33 rfl (by kernel_rfl) rfl rfl (by simp) ?_
  intro E
  have wZ : Wk (.agg [.int .i64 0, .sl true 0 none [], .sl true 0 none []]) (.agg (recC zrec)) := .agg3 (.refl _) (.nil _ _ _ _) (.nil _ _ _ _)
  have k1 := checkR_does a
  have k2 := checkR_does b
  cases c1 : (check a == 0)
  case false =>
    have e : joinR a b = (zrec, 1) := by rw [joinR, if_neg (fun h => by simp [h.1] at c1)]
    rw [e]
    simp only [recC] at k1 k2 ⊢
    repeat (first
      | (refine Tri.seq fun K hK => ?_)
      | (refine Tri.region ?_; simp [upd, c1, bne])
      | (refine Tri.draw (by kernel_rfl) (by decide +kernel) ?_; simp [upd, c1, bne])
      | (refine Tri.draw2 [] [0, 1, 2, 3, 4, 5, 6, 7] [] [] (by kernel_rfl) (by kernel_rfl) (by decide) (by rfl) (by decide +kernel) ?_; simp [upd, c1, bne])
      | (refine Tri.cond_true ?_ ?_; (focus simp [upd, c1, bne]; done))
      | (refine Tri.cond_false ?_ ?_; (focus simp [upd, c1, bne]; done))
      | (refine Tri.skip ?_; simp only [thenS, blockS])
      | (refine Tri.block_seq ?_)
      | (refine Tri.block_region ?_)
      | (refine Tri.block_cond ?_)
      | ((with_reducible refine CallK.pure (k1) (Wks.refl _) ?_); simp [upd, c1, bne])
      | ((with_reducible refine CallK.pure (k2) (Wks.refl _) ?_); simp [upd, c1, bne])
      | (refine Tri.exit ?_; simp [upd, c1, bne]; first | (rename ∀ st, Tri _ _ _ st _ → _ => hK; first | (apply hK; clear hK) | (clear hK; rename ∀ st, Tri _ _ _ st _ → _ => hK; first | (apply hK; clear hK) | (clear hK; rename ∀ st, Tri _ _ _ st _ → _ => hK; first | (apply hK; clear hK) | (clear hK; rename ∀ st, Tri _ _ _ st _ → _ => hK; first | (apply hK; clear hK) | (clear hK; rename ∀ st, Tri _ _ _ st _ → _ => hK; first | (apply hK; clear hK) | (clear hK; rename ∀ st, Tri _ _ _ st _ → _ => hK; apply hK; clear hK)))))) | skip)
      | (intro β)
      | (rename ∀ st, Tri _ _ _ st _ → _ => hK; apply hK; clear hK))
    refine Tri.ret ⟨.tup [.agg [.int .i64 0, .sl true 0 none [], .sl true 0 none []], .c (.int .i64 1)], by simp [upd], ?_⟩
    exact .tup2 wZ (.refl _)
  cases c2 : (check b == 0)
  case false =>
    have e : joinR a b = (zrec, 1) := by rw [joinR, if_neg (fun h => by simp [h.2] at c2)]
    rw [e]
    simp only [recC] at k1 k2 ⊢
    repeat (first
      | (refine Tri.seq fun K hK => ?_)
      | (refine Tri.region ?_; simp [upd, c1, c2, bne])
      | (refine Tri.draw (by kernel_rfl) (by decide +kernel) ?_; simp [upd, c1, c2, bne])
      | (refine Tri.draw2 [] [0, 1, 2, 3, 4, 5, 6, 7] [] [] (by kernel_rfl) (by kernel_rfl) (by decide) (by rfl) (by decide +kernel) ?_; simp [upd, c1, c2, bne])
      | (refine Tri.cond_true ?_ ?_; (focus simp [upd, c1, c2, bne]; done))
      | (refine Tri.cond_false ?_ ?_; (focus simp [upd, c1, c2, bne]; done))
      | (refine Tri.skip ?_; simp only [thenS, blockS])
      | (refine Tri.block_seq ?_)
      | (refine Tri.block_region ?_)
      | (refine Tri.block_cond ?_)
      | ((with_reducible refine CallK.pure (k1) (Wks.refl _) ?_); simp [upd, c1, c2, bne])
      | ((with_reducible refine CallK.pure (k2) (Wks.refl _) ?_); simp [upd, c1, c2, bne])
      | (refine Tri.exit ?_; simp [upd, c1, c2, bne]; first | (rename ∀ st, Tri _ _ _ st _ → _ => hK; first | (apply hK; clear hK) | (clear hK; rename ∀ st, Tri _ _ _ st _ → _ => hK; first | (apply hK; clear hK) | (clear hK; rename ∀ st, Tri _ _ _ st _ → _ => hK; first | (apply hK; clear hK) | (clear hK; rename ∀ st, Tri _ _ _ st _ → _ => hK; first | (apply hK; clear hK) | (clear hK; rename ∀ st, Tri _ _ _ st _ → _ => hK; first | (apply hK; clear hK) | (clear hK; rename ∀ st, Tri _ _ _ st _ → _ => hK; apply hK; clear hK)))))) | skip)
      | (intro β)
      | (rename ∀ st, Tri _ _ _ st _ → _ => hK; apply hK; clear hK))
    refine Tri.ret ⟨.tup [.agg [.int .i64 0, .sl true 0 none [], .sl true 0 none []], .c (.int .i64 1)], by simp [upd], ?_⟩
    exact .tup2 wZ (.refl _)
  have hc : check a = 0 ∧ check b = 0 := ⟨by simpa using c1, by simpa using c2⟩
  have ho := (check_iff b).1 hc.2
  by_cases g1 : b.slots < a.slots
  · have e : joinR a b = (zrec, 11) := by rw [joinR, if_pos hc, if_pos (by simp [early, g1])]
    rw [e]
    simp only [recC] at k1 k2 ⊢
    repeat (first
      | (refine Tri.seq fun K hK => ?_)
      | (refine Tri.region ?_; simp [upd, c1, c2, g1, bne])
      | (refine Tri.draw (by kernel_rfl) (by decide +kernel) ?_; simp [upd, c1, c2, g1, bne])
      | (refine Tri.draw2 [] [0, 1, 2, 3, 4, 5, 6, 7] [] [] (by kernel_rfl) (by kernel_rfl) (by decide) (by rfl) (by decide +kernel) ?_; simp [upd, c1, c2, g1, bne])
      | (refine Tri.cond_true ?_ ?_; (focus simp [upd, c1, c2, g1, bne]; done))
      | (refine Tri.cond_false ?_ ?_; (focus simp [upd, c1, c2, g1, bne]; done))
      | (refine Tri.skip ?_; simp only [thenS, blockS])
      | (refine Tri.block_seq ?_)
      | (refine Tri.block_region ?_)
      | (refine Tri.block_cond ?_)
      | ((with_reducible refine CallK.pure (k1) (Wks.refl _) ?_); simp [upd, c1, c2, g1, bne])
      | ((with_reducible refine CallK.pure (k2) (Wks.refl _) ?_); simp [upd, c1, c2, g1, bne])
      | (refine Tri.exit ?_; simp [upd, c1, c2, g1, bne]; first | (rename ∀ st, Tri _ _ _ st _ → _ => hK; first | (apply hK; clear hK) | (clear hK; rename ∀ st, Tri _ _ _ st _ → _ => hK; first | (apply hK; clear hK) | (clear hK; rename ∀ st, Tri _ _ _ st _ → _ => hK; first | (apply hK; clear hK) | (clear hK; rename ∀ st, Tri _ _ _ st _ → _ => hK; first | (apply hK; clear hK) | (clear hK; rename ∀ st, Tri _ _ _ st _ → _ => hK; first | (apply hK; clear hK) | (clear hK; rename ∀ st, Tri _ _ _ st _ → _ => hK; apply hK; clear hK)))))) | skip)
      | (intro β)
      | (rename ∀ st, Tri _ _ _ st _ → _ => hK; apply hK; clear hK))
    refine Tri.ret ⟨.tup [.agg [.int .i64 0, .sl true 0 none [], .sl true 0 none []], .c (.int .i64 11)], by simp [upd], ?_⟩
    exact .tup2 wZ (.refl _)
  by_cases x0 : 0 < b.atts.length
  · have y0 := anyA_head ho a.slots x0
    by_cases x1 : b.atts[0].slot < a.slots
    · have e : joinR a b = (zrec, 11) := by rw [joinR, if_pos hc, if_pos (by simp [early, y0, x1])]
      rw [e]
      simp only [recC] at k1 k2 ⊢
      repeat (first
        | (refine Tri.seq fun K hK => ?_)
        | (refine Tri.region ?_; simp [upd, c1, c2, g1, x0, x1, bne])
        | (refine Tri.draw (by kernel_rfl) (by decide +kernel) ?_; simp [upd, c1, c2, g1, x0, x1, bne])
        | (refine Tri.draw2 [] [0, 1, 2, 3, 4, 5, 6, 7] [] [] (by kernel_rfl) (by kernel_rfl) (by decide) (by rfl) (by decide +kernel) ?_; simp [upd, c1, c2, g1, x0, x1, bne])
        | (refine Tri.cond_true ?_ ?_; (focus simp [upd, c1, c2, g1, x0, x1, bne]; done))
        | (refine Tri.cond_false ?_ ?_; (focus simp [upd, c1, c2, g1, x0, x1, bne]; done))
        | (refine Tri.skip ?_; simp only [thenS, blockS])
        | (refine Tri.block_seq ?_)
        | (refine Tri.block_region ?_)
        | (refine Tri.block_cond ?_)
        | ((with_reducible refine CallK.pure (k1) (Wks.refl _) ?_); simp [upd, c1, c2, g1, x0, x1, bne])
        | ((with_reducible refine CallK.pure (k2) (Wks.refl _) ?_); simp [upd, c1, c2, g1, x0, x1, bne])
        | (refine Tri.exit ?_; simp [upd, c1, c2, g1, x0, x1, bne]; first | (rename ∀ st, Tri _ _ _ st _ → _ => hK; first | (apply hK; clear hK) | (clear hK; rename ∀ st, Tri _ _ _ st _ → _ => hK; first | (apply hK; clear hK) | (clear hK; rename ∀ st, Tri _ _ _ st _ → _ => hK; first | (apply hK; clear hK) | (clear hK; rename ∀ st, Tri _ _ _ st _ → _ => hK; first | (apply hK; clear hK) | (clear hK; rename ∀ st, Tri _ _ _ st _ → _ => hK; first | (apply hK; clear hK) | (clear hK; rename ∀ st, Tri _ _ _ st _ → _ => hK; apply hK; clear hK)))))) | skip)
        | (intro β)
        | (rename ∀ st, Tri _ _ _ st _ → _ => hK; apply hK; clear hK))
      refine Tri.ret ⟨.tup [.agg [.int .i64 0, .sl true 0 none [], .sl true 0 none []], .c (.int .i64 11)], by simp [upd], ?_⟩
      exact .tup2 wZ (.refl _)
    have hA : anyA a.slots b.atts = false := by rw [y0]; simp [x1]
    by_cases z0 : 0 < b.dels.length
    · have w0 := anyD_head ho a.slots z0
      by_cases z1 : b.dels[0].slot < a.slots
      · have e : joinR a b = (zrec, 11) := by rw [joinR, if_pos hc, if_pos (by simp [early, w0, z1])]
        rw [e]
        simp only [recC] at k1 k2 ⊢
        repeat (first
          | (refine Tri.seq fun K hK => ?_)
          | (refine Tri.region ?_; simp [upd, c1, c2, g1, x0, x1, z0, z1, bne])
          | (refine Tri.draw (by kernel_rfl) (by decide +kernel) ?_; simp [upd, c1, c2, g1, x0, x1, z0, z1, bne])
          | (refine Tri.draw2 [] [0, 1, 2, 3, 4, 5, 6, 7] [] [] (by kernel_rfl) (by kernel_rfl) (by decide) (by rfl) (by decide +kernel) ?_; simp [upd, c1, c2, g1, x0, x1, z0, z1, bne])
          | (refine Tri.cond_true ?_ ?_; (focus simp [upd, c1, c2, g1, x0, x1, z0, z1, bne]; done))
          | (refine Tri.cond_false ?_ ?_; (focus simp [upd, c1, c2, g1, x0, x1, z0, z1, bne]; done))
          | (refine Tri.skip ?_; simp only [thenS, blockS])
          | (refine Tri.block_seq ?_)
          | (refine Tri.block_region ?_)
          | (refine Tri.block_cond ?_)
          | ((with_reducible refine CallK.pure (k1) (Wks.refl _) ?_); simp [upd, c1, c2, g1, x0, x1, z0, z1, bne])
          | ((with_reducible refine CallK.pure (k2) (Wks.refl _) ?_); simp [upd, c1, c2, g1, x0, x1, z0, z1, bne])
          | (refine Tri.exit ?_; simp [upd, c1, c2, g1, x0, x1, z0, z1, bne]; first | (rename ∀ st, Tri _ _ _ st _ → _ => hK; first | (apply hK; clear hK) | (clear hK; rename ∀ st, Tri _ _ _ st _ → _ => hK; first | (apply hK; clear hK) | (clear hK; rename ∀ st, Tri _ _ _ st _ → _ => hK; first | (apply hK; clear hK) | (clear hK; rename ∀ st, Tri _ _ _ st _ → _ => hK; first | (apply hK; clear hK) | (clear hK; rename ∀ st, Tri _ _ _ st _ → _ => hK; first | (apply hK; clear hK) | (clear hK; rename ∀ st, Tri _ _ _ st _ → _ => hK; apply hK; clear hK)))))) | skip)
          | (intro β)
          | (rename ∀ st, Tri _ _ _ st _ → _ => hK; apply hK; clear hK))
        refine Tri.ret ⟨.tup [.agg [.int .i64 0, .sl true 0 none [], .sl true 0 none []], .c (.int .i64 11)], by simp [upd], ?_⟩
        exact .tup2 wZ (.refl _)
      have hD : anyD a.slots b.dels = false := by rw [w0]; simp [z1]
      have e : joinR a b = (⟨b.slots, false, a.atts ++ b.atts, false, a.dels ++ b.dels⟩, 0) := by rw [joinR, if_pos hc, if_neg (by simp [early, g1, hA, hD])]
      rw [e]
      have q1 : a.atts.length * 64 ≤ 140737488355328 := by omega
      have q2 : (a.atts.length + b.atts.length) * 64 ≤ 140737488355328 := by omega
      have q3 : a.dels.length * 24 ≤ 140737488355328 := by omega
      have q4 : (a.dels.length + b.dels.length) * 24 ≤ 140737488355328 := by omega
      simp only [recC] at k1 k2 ⊢
      repeat (first
        | (refine Tri.seq fun K hK => ?_)
        | (refine Tri.region ?_; simp [upd, c1, c2, g1, x0, x1, z0, z1, q1, q2, q3, q4, bne])
        | (refine Tri.draw (by kernel_rfl) (by decide +kernel) ?_; simp [upd, c1, c2, g1, x0, x1, z0, z1, q1, q2, q3, q4, bne])
        | (refine Tri.draw2 [] [0, 1, 2, 3, 4, 5, 6, 7] [] [] (by kernel_rfl) (by kernel_rfl) (by decide) (by rfl) (by decide +kernel) ?_; simp [upd, c1, c2, g1, x0, x1, z0, z1, q1, q2, q3, q4, bne])
        | (refine Tri.cond_true ?_ ?_; (focus simp [upd, c1, c2, g1, x0, x1, z0, z1, q1, q2, q3, q4, bne]; done))
        | (refine Tri.cond_false ?_ ?_; (focus simp [upd, c1, c2, g1, x0, x1, z0, z1, q1, q2, q3, q4, bne]; done))
        | (refine Tri.skip ?_; simp only [thenS, blockS])
        | (refine Tri.block_seq ?_)
        | (refine Tri.block_region ?_)
        | (refine Tri.block_cond ?_)
        | ((with_reducible refine CallK.pure (k1) (Wks.refl _) ?_); simp [upd, c1, c2, g1, x0, x1, z0, z1, q1, q2, q3, q4, bne])
        | ((with_reducible refine CallK.pure (k2) (Wks.refl _) ?_); simp [upd, c1, c2, g1, x0, x1, z0, z1, q1, q2, q3, q4, bne])
        | (refine Tri.exit ?_; simp [upd, c1, c2, g1, x0, x1, z0, z1, q1, q2, q3, q4, bne]; first | (rename ∀ st, Tri _ _ _ st _ → _ => hK; first | (apply hK; clear hK) | (clear hK; rename ∀ st, Tri _ _ _ st _ → _ => hK; first | (apply hK; clear hK) | (clear hK; rename ∀ st, Tri _ _ _ st _ → _ => hK; first | (apply hK; clear hK) | (clear hK; rename ∀ st, Tri _ _ _ st _ → _ => hK; first | (apply hK; clear hK) | (clear hK; rename ∀ st, Tri _ _ _ st _ → _ => hK; first | (apply hK; clear hK) | (clear hK; rename ∀ st, Tri _ _ _ st _ → _ => hK; apply hK; clear hK)))))) | skip)
        | (intro β)
        | (rename ∀ st, Tri _ _ _ st _ → _ => hK; apply hK; clear hK))
      refine Tri.ret ⟨_, by simp [upd] <;> exact rfl, ?_⟩
      refine .tup2 (.agg3 (.refl _) ?_ ?_) (.refl _)
      · rw [List.map_append]
        exact .untag _ _ _ _
      · rw [List.map_append]
        exact .untag _ _ _ _
    have hD : anyD a.slots b.dels = false := by
      have : b.dels = [] := List.length_eq_zero_iff.1 (by omega)
      rw [this]; unfold anyD; rfl
    have e : joinR a b = (⟨b.slots, false, a.atts ++ b.atts, false, a.dels ++ b.dels⟩, 0) := by rw [joinR, if_pos hc, if_neg (by simp [early, g1, hA, hD])]
    rw [e]
    have q1 : a.atts.length * 64 ≤ 140737488355328 := by omega
    have q2 : (a.atts.length + b.atts.length) * 64 ≤ 140737488355328 := by omega
    have q3 : a.dels.length * 24 ≤ 140737488355328 := by omega
    have q4 : (a.dels.length + b.dels.length) * 24 ≤ 140737488355328 := by omega
    simp only [recC] at k1 k2 ⊢
    repeat (first
      | (refine Tri.seq fun K hK => ?_)
      | (refine Tri.region ?_; simp [upd, c1, c2, g1, x0, x1, z0, q1, q2, q3, q4, bne])
      | (refine Tri.draw (by kernel_rfl) (by decide +kernel) ?_; simp [upd, c1, c2, g1, x0, x1, z0, q1, q2, q3, q4, bne])
      | (refine Tri.draw2 [] [0, 1, 2, 3, 4, 5, 6, 7] [] [] (by kernel_rfl) (by kernel_rfl) (by decide) (by rfl) (by decide +kernel) ?_; simp [upd, c1, c2, g1, x0, x1, z0, q1, q2, q3, q4, bne])
      | (refine Tri.cond_true ?_ ?_; (focus simp [upd, c1, c2, g1, x0, x1, z0, q1, q2, q3, q4, bne]; done))
      | (refine Tri.cond_false ?_ ?_; (focus simp [upd, c1, c2, g1, x0, x1, z0, q1, q2, q3, q4, bne]; done))
      | (refine Tri.skip ?_; simp only [thenS, blockS])
      | (refine Tri.block_seq ?_)
      | (refine Tri.block_region ?_)
      | (refine Tri.block_cond ?_)
      | ((with_reducible refine CallK.pure (k1) (Wks.refl _) ?_); simp [upd, c1, c2, g1, x0, x1, z0, q1, q2, q3, q4, bne])
      | ((with_reducible refine CallK.pure (k2) (Wks.refl _) ?_); simp [upd, c1, c2, g1, x0, x1, z0, q1, q2, q3, q4, bne])
      | (refine Tri.exit ?_; simp [upd, c1, c2, g1, x0, x1, z0, q1, q2, q3, q4, bne]; first | (rename ∀ st, Tri _ _ _ st _ → _ => hK; first | (apply hK; clear hK) | (clear hK; rename ∀ st, Tri _ _ _ st _ → _ => hK; first | (apply hK; clear hK) | (clear hK; rename ∀ st, Tri _ _ _ st _ → _ => hK; first | (apply hK; clear hK) | (clear hK; rename ∀ st, Tri _ _ _ st _ → _ => hK; first | (apply hK; clear hK) | (clear hK; rename ∀ st, Tri _ _ _ st _ → _ => hK; first | (apply hK; clear hK) | (clear hK; rename ∀ st, Tri _ _ _ st _ → _ => hK; apply hK; clear hK)))))) | skip)
      | (intro β)
      | (rename ∀ st, Tri _ _ _ st _ → _ => hK; apply hK; clear hK))
    refine Tri.ret ⟨_, by simp [upd] <;> exact rfl, ?_⟩
    refine .tup2 (.agg3 (.refl _) ?_ ?_) (.refl _)
    · rw [List.map_append]
      exact .untag _ _ _ _
    · rw [List.map_append]
      exact .untag _ _ _ _
  have hA : anyA a.slots b.atts = false := by
    have : b.atts = [] := List.length_eq_zero_iff.1 (by omega)
    rw [this]; unfold anyA; rfl
  by_cases z0 : 0 < b.dels.length
  · have w0 := anyD_head ho a.slots z0
    by_cases z1 : b.dels[0].slot < a.slots
    · have e : joinR a b = (zrec, 11) := by rw [joinR, if_pos hc, if_pos (by simp [early, w0, z1])]
      rw [e]
      simp only [recC] at k1 k2 ⊢
      repeat (first
        | (refine Tri.seq fun K hK => ?_)
        | (refine Tri.region ?_; simp [upd, c1, c2, g1, x0, z0, z1, bne])
        | (refine Tri.draw (by kernel_rfl) (by decide +kernel) ?_; simp [upd, c1, c2, g1, x0, z0, z1, bne])
        | (refine Tri.draw2 [] [0, 1, 2, 3, 4, 5, 6, 7] [] [] (by kernel_rfl) (by kernel_rfl) (by decide) (by rfl) (by decide +kernel) ?_; simp [upd, c1, c2, g1, x0, z0, z1, bne])
        | (refine Tri.cond_true ?_ ?_; (focus simp [upd, c1, c2, g1, x0, z0, z1, bne]; done))
        | (refine Tri.cond_false ?_ ?_; (focus simp [upd, c1, c2, g1, x0, z0, z1, bne]; done))
        | (refine Tri.skip ?_; simp only [thenS, blockS])
        | (refine Tri.block_seq ?_)
        | (refine Tri.block_region ?_)
        | (refine Tri.block_cond ?_)
        | ((with_reducible refine CallK.pure (k1) (Wks.refl _) ?_); simp [upd, c1, c2, g1, x0, z0, z1, bne])
        | ((with_reducible refine CallK.pure (k2) (Wks.refl _) ?_); simp [upd, c1, c2, g1, x0, z0, z1, bne])
        | (refine Tri.exit ?_; simp [upd, c1, c2, g1, x0, z0, z1, bne]; first | (rename ∀ st, Tri _ _ _ st _ → _ => hK; first | (apply hK; clear hK) | (clear hK; rename ∀ st, Tri _ _ _ st _ → _ => hK; first | (apply hK; clear hK) | (clear hK; rename ∀ st, Tri _ _ _ st _ → _ => hK; first | (apply hK; clear hK) | (clear hK; rename ∀ st, Tri _ _ _ st _ → _ => hK; first | (apply hK; clear hK) | (clear hK; rename ∀ st, Tri _ _ _ st _ → _ => hK; first | (apply hK; clear hK) | (clear hK; rename ∀ st, Tri _ _ _ st _ → _ => hK; apply hK; clear hK)))))) | skip)
        | (intro β)
        | (rename ∀ st, Tri _ _ _ st _ → _ => hK; apply hK; clear hK))
      refine Tri.ret ⟨.tup [.agg [.int .i64 0, .sl true 0 none [], .sl true 0 none []], .c (.int .i64 11)], by simp [upd], ?_⟩
      exact .tup2 wZ (.refl _)
    have hD : anyD a.slots b.dels = false := by rw [w0]; simp [z1]
    have e : joinR a b = (⟨b.slots, false, a.atts ++ b.atts, false, a.dels ++ b.dels⟩, 0) := by rw [joinR, if_pos hc, if_neg (by simp [early, g1, hA, hD])]
    rw [e]
    have q1 : a.atts.length * 64 ≤ 140737488355328 := by omega
    have q2 : (a.atts.length + b.atts.length) * 64 ≤ 140737488355328 := by omega
    have q3 : a.dels.length * 24 ≤ 140737488355328 := by omega
    have q4 : (a.dels.length + b.dels.length) * 24 ≤ 140737488355328 := by omega
    simp only [recC] at k1 k2 ⊢
    repeat (first
      | (refine Tri.seq fun K hK => ?_)
      | (refine Tri.region ?_; simp [upd, c1, c2, g1, x0, z0, z1, q1, q2, q3, q4, bne])
      | (refine Tri.draw (by kernel_rfl) (by decide +kernel) ?_; simp [upd, c1, c2, g1, x0, z0, z1, q1, q2, q3, q4, bne])
      | (refine Tri.draw2 [] [0, 1, 2, 3, 4, 5, 6, 7] [] [] (by kernel_rfl) (by kernel_rfl) (by decide) (by rfl) (by decide +kernel) ?_; simp [upd, c1, c2, g1, x0, z0, z1, q1, q2, q3, q4, bne])
      | (refine Tri.cond_true ?_ ?_; (focus simp [upd, c1, c2, g1, x0, z0, z1, q1, q2, q3, q4, bne]; done))
      | (refine Tri.cond_false ?_ ?_; (focus simp [upd, c1, c2, g1, x0, z0, z1, q1, q2, q3, q4, bne]; done))
      | (refine Tri.skip ?_; simp only [thenS, blockS])
      | (refine Tri.block_seq ?_)
      | (refine Tri.block_region ?_)
      | (refine Tri.block_cond ?_)
      | ((with_reducible refine CallK.pure (k1) (Wks.refl _) ?_); simp [upd, c1, c2, g1, x0, z0, z1, q1, q2, q3, q4, bne])
      | ((with_reducible refine CallK.pure (k2) (Wks.refl _) ?_); simp [upd, c1, c2, g1, x0, z0, z1, q1, q2, q3, q4, bne])
      | (refine Tri.exit ?_; simp [upd, c1, c2, g1, x0, z0, z1, q1, q2, q3, q4, bne]; first | (rename ∀ st, Tri _ _ _ st _ → _ => hK; first | (apply hK; clear hK) | (clear hK; rename ∀ st, Tri _ _ _ st _ → _ => hK; first | (apply hK; clear hK) | (clear hK; rename ∀ st, Tri _ _ _ st _ → _ => hK; first | (apply hK; clear hK) | (clear hK; rename ∀ st, Tri _ _ _ st _ → _ => hK; first | (apply hK; clear hK) | (clear hK; rename ∀ st, Tri _ _ _ st _ → _ => hK; first | (apply hK; clear hK) | (clear hK; rename ∀ st, Tri _ _ _ st _ → _ => hK; apply hK; clear hK)))))) | skip)
      | (intro β)
      | (rename ∀ st, Tri _ _ _ st _ → _ => hK; apply hK; clear hK))
    refine Tri.ret ⟨_, by simp [upd] <;> exact rfl, ?_⟩
    refine .tup2 (.agg3 (.refl _) ?_ ?_) (.refl _)
    · rw [List.map_append]
      exact .untag _ _ _ _
    · rw [List.map_append]
      exact .untag _ _ _ _
  have hD : anyD a.slots b.dels = false := by
    have : b.dels = [] := List.length_eq_zero_iff.1 (by omega)
    rw [this]; unfold anyD; rfl
  have e : joinR a b = (⟨b.slots, false, a.atts ++ b.atts, false, a.dels ++ b.dels⟩, 0) := by rw [joinR, if_pos hc, if_neg (by simp [early, g1, hA, hD])]
  rw [e]
  have q1 : a.atts.length * 64 ≤ 140737488355328 := by omega
  have q2 : (a.atts.length + b.atts.length) * 64 ≤ 140737488355328 := by omega
  have q3 : a.dels.length * 24 ≤ 140737488355328 := by omega
  have q4 : (a.dels.length + b.dels.length) * 24 ≤ 140737488355328 := by omega
  simp only [recC] at k1 k2 ⊢
  repeat (first
    | (refine Tri.seq fun K hK => ?_)
    | (refine Tri.region ?_; simp [upd, c1, c2, g1, x0, z0, q1, q2, q3, q4, bne])
    | (refine Tri.draw (by kernel_rfl) (by decide +kernel) ?_; simp [upd, c1, c2, g1, x0, z0, q1, q2, q3, q4, bne])
    | (refine Tri.draw2 [] [0, 1, 2, 3, 4, 5, 6, 7] [] [] (by kernel_rfl) (by kernel_rfl) (by decide) (by rfl) (by decide +kernel) ?_; simp [upd, c1, c2, g1, x0, z0, q1, q2, q3, q4, bne])
    | (refine Tri.cond_true ?_ ?_; (focus simp [upd, c1, c2, g1, x0, z0, q1, q2, q3, q4, bne]; done))
    | (refine Tri.cond_false ?_ ?_; (focus simp [upd, c1, c2, g1, x0, z0, q1, q2, q3, q4, bne]; done))
    | (refine Tri.skip ?_; simp only [thenS, blockS])
    | (refine Tri.block_seq ?_)
    | (refine Tri.block_region ?_)
    | (refine Tri.block_cond ?_)
    | ((with_reducible refine CallK.pure (k1) (Wks.refl _) ?_); simp [upd, c1, c2, g1, x0, z0, q1, q2, q3, q4, bne])
    | ((with_reducible refine CallK.pure (k2) (Wks.refl _) ?_); simp [upd, c1, c2, g1, x0, z0, q1, q2, q3, q4, bne])
    | (refine Tri.exit ?_; simp [upd, c1, c2, g1, x0, z0, q1, q2, q3, q4, bne]; first | (rename ∀ st, Tri _ _ _ st _ → _ => hK; first | (apply hK; clear hK) | (clear hK; rename ∀ st, Tri _ _ _ st _ → _ => hK; first | (apply hK; clear hK) | (clear hK; rename ∀ st, Tri _ _ _ st _ → _ => hK; first | (apply hK; clear hK) | (clear hK; rename ∀ st, Tri _ _ _ st _ → _ => hK; first | (apply hK; clear hK) | (clear hK; rename ∀ st, Tri _ _ _ st _ → _ => hK; first | (apply hK; clear hK) | (clear hK; rename ∀ st, Tri _ _ _ st _ → _ => hK; apply hK; clear hK)))))) | skip)
    | (intro β)
    | (rename ∀ st, Tri _ _ _ st _ → _ => hK; apply hK; clear hK))
  refine Tri.ret ⟨_, by simp [upd] <;> exact rfl, ?_⟩
  refine .tup2 (.agg3 (.refl _) ?_ ?_) (.refl _)
  · rw [List.map_append]
    exact .untag _ _ _ _
  · rw [List.map_append]
    exact .untag _ _ _ _
end Go.Proofs.Ytcohdlochpjnjaa
end
section
open Go Go.Vm
namespace Go.Proofs.Ytcohdlochpjnjaa
set_option maxRecDepth 100000
set_option maxHeartbeats 4000000
set_option linter.unusedSimpArgs false
attribute [-simp] isObj C.isO
def flA (l : List Att) : List C := (l.map attC).flatten
def flD (l : List Del) : List C := (l.map delC).flatten
@[simp] theorem flA_len (l : List Att) : (flA l).length = l.length * 8 := by
  unfold flA
  rw [length_flatten_uniform (n := 8) _ (fun e he => by obtain ⟨x, _, rfl⟩ := List.mem_map.1 he; rfl), List.length_map]
theorem flA_app (a b : List Att) : flA (a ++ b) = flA a ++ flA b := by simp [flA]
theorem flA_cons (x : Att) (b : List Att) : flA (x :: b) = attC x ++ flA b := by simp [flA]
theorem flA_take (l : List Att) (i : Nat) (h : i ≤ l.length) : (flA l).take (i * 8) = flA (l.take i) := by
  conv => lhs; rw [← List.take_append_drop i l]
  rw [flA_app, List.take_left']
  rw [flA_len, List.length_take, Nat.min_eq_left h]
theorem flA_drop (l : List Att) (i : Nat) (h : i ≤ l.length) : (flA l).drop (i * 8) = flA (l.drop i) := by
  conv => lhs; rw [← List.take_append_drop i l]
  rw [flA_app, List.drop_left']
  rw [flA_len, List.length_take, Nat.min_eq_left h]
theorem flA_get (l : List Att) (i : Nat) (h : i < l.length) : ((flA l).drop (i * 8)).take 8 = attC l[i] := by
  rw [flA_drop l i (by omega), List.drop_eq_getElem_cons h, flA_cons]
  exact List.take_left' (show (attC l[i]).length = 8 from rfl)
theorem flA_set (l : List Att) (i : Nat) (h : i < l.length) (x : Att) : (flA l).take (i * 8) ++ (attC x ++ (flA l).drop (i * 8 + 8)) = flA (l.set i x) := by
  rw [flA_take l i (by omega), show i * 8 + 8 = (i + 1) * 8 by omega, flA_drop l (i + 1) (by omega), List.set_eq_take_append_cons_drop, if_pos h, flA_app, flA_cons]
@[simp] theorem isObj_flA (l : List Att) : isObj (flA l) = false := by
  cases l with
  | nil => rfl
  | cons x l => rw [flA_cons]; simp [attC]
@[simp] theorem flD_len (l : List Del) : (flD l).length = l.length * 3 := by
  unfold flD
  rw [length_flatten_uniform (n := 3) _ (fun e he => by obtain ⟨x, _, rfl⟩ := List.mem_map.1 he; rfl), List.length_map]
theorem flD_app (a b : List Del) : flD (a ++ b) = flD a ++ flD b := by simp [flD]
theorem flD_cons (x : Del) (b : List Del) : flD (x :: b) = delC x ++ flD b := by simp [flD]
theorem flD_take (l : List Del) (i : Nat) (h : i ≤ l.length) : (flD l).take (i * 3) = flD (l.take i) := by
  conv => lhs; rw [← List.take_append_drop i l]
  rw [flD_app, List.take_left']
  rw [flD_len, List.length_take, Nat.min_eq_left h]
theorem flD_drop (l : List Del) (i : Nat) (h : i ≤ l.length) : (flD l).drop (i * 3) = flD (l.drop i) := by
  conv => lhs; rw [← List.take_append_drop i l]
  rw [flD_app, List.drop_left']
  rw [flD_len, List.length_take, Nat.min_eq_left h]
theorem flD_get (l : List Del) (i : Nat) (h : i < l.length) : ((flD l).drop (i * 3)).take 3 = delC l[i] := by
  rw [flD_drop l i (by omega), List.drop_eq_getElem_cons h, flD_cons]
  exact List.take_left' (show (delC l[i]).length = 3 from rfl)
theorem flD_set (l : List Del) (i : Nat) (h : i < l.length) (x : Del) : (flD l).take (i * 3) ++ (delC x ++ (flD l).drop (i * 3 + 3)) = flD (l.set i x) := by
  rw [flD_take l i (by omega), show i * 3 + 3 = (i + 1) * 3 by omega, flD_drop l (i + 1) (by omega), List.set_eq_take_append_cons_drop, if_pos h, flD_app, flD_cons]
@[simp] theorem isObj_flD (l : List Del) : isObj (flD l) = false := by
  cases l with
  | nil => rfl
  | cons x l => rw [flD_cons]; simp [delC]
attribute [irreducible] flA flD
attribute [local irreducible] Tri Does DoesB Rounds check sameB idxI
theorem cloA2 (x : Att) (b : Nat) (s : Int) : DoesB Try.prog 35 [.agg (attC x), .c (.box 100 b 0)] [(100, b, [.int .i64 s])] [] (fun _ => (.c (.bool (decide (x.slot < s))), [(100, b, [.int .i64 s])], [])) := by
  refine DoesB.of_body Try.func35 rfl (by kernel_rfl) rfl rfl (by simp) (fun _ => rfl) fun E => ?_
  repeat (first
    | (refine Tri.seq fun K hK => ?_)
    | (refine Tri.region ?_; simp [upd])
    | (refine Tri.draw (by kernel_rfl) (by decide +kernel) ?_; simp [upd])
    | (refine Tri.cond_true ?_ ?_; (focus simp [upd]; done))
    | (refine Tri.cond_false ?_ ?_; (focus simp [upd]; done))
    | (refine Tri.skip ?_; simp only [thenS, blockS])
    | (refine Tri.block_seq ?_)
    | (refine Tri.block_region ?_)
    | (refine Tri.block_cond ?_)
    | (refine Tri.exit ?_; simp [upd]; first | (rename ∀ st, Tri _ _ _ st _ → _ => hK; first | (apply hK; clear hK) | (clear hK; rename ∀ st, Tri _ _ _ st _ → _ => hK; first | (apply hK; clear hK) | (clear hK; rename ∀ st, Tri _ _ _ st _ → _ => hK; first | (apply hK; clear hK) | (clear hK; rename ∀ st, Tri _ _ _ st _ → _ => hK; first | (apply hK; clear hK) | (clear hK; rename ∀ st, Tri _ _ _ st _ → _ => hK; first | (apply hK; clear hK) | (clear hK; rename ∀ st, Tri _ _ _ st _ → _ => hK; apply hK; clear hK)))))) | skip)
    | (intro β)
    | (rename ∀ st, Tri _ _ _ st _ → _ => hK; apply hK; clear hK))
  refine Tri.ret ⟨_, 0, [], rfl, ?_, ?_, trivial, by simp⟩
  · simp [upd]
    exact Wk.refl _
  · simp [upd]
theorem cloD2 (x : Del) (b : Nat) (s : Int) : DoesB Try.prog 37 [.agg (delC x), .c (.box 100 b 0)] [(100, b, [.int .i64 s])] [] (fun _ => (.c (.bool (decide (x.slot < s))), [(100, b, [.int .i64 s])], [])) := by
  refine DoesB.of_body Try.func37 rfl (by kernel_rfl) rfl rfl (by simp) (fun _ => rfl) fun E => ?_
  repeat (first
    | (refine Tri.seq fun K hK => ?_)
    | (refine Tri.region ?_; simp [upd])
    | (refine Tri.draw (by kernel_rfl) (by decide +kernel) ?_; simp [upd])
    | (refine Tri.cond_true ?_ ?_; (focus simp [upd]; done))
    | (refine Tri.cond_false ?_ ?_; (focus simp [upd]; done))
    | (refine Tri.skip ?_; simp only [thenS, blockS])
    | (refine Tri.block_seq ?_)
    | (refine Tri.block_region ?_)
    | (refine Tri.block_cond ?_)
    | (refine Tri.exit ?_; simp [upd]; first | (rename ∀ st, Tri _ _ _ st _ → _ => hK; first | (apply hK; clear hK) | (clear hK; rename ∀ st, Tri _ _ _ st _ → _ => hK; first | (apply hK; clear hK) | (clear hK; rename ∀ st, Tri _ _ _ st _ → _ => hK; first | (apply hK; clear hK) | (clear hK; rename ∀ st, Tri _ _ _ st _ → _ => hK; first | (apply hK; clear hK) | (clear hK; rename ∀ st, Tri _ _ _ st _ → _ => hK; first | (apply hK; clear hK) | (clear hK; rename ∀ st, Tri _ _ _ st _ → _ => hK; apply hK; clear hK)))))) | skip)
    | (intro β)
    | (rename ∀ st, Tri _ _ _ st _ → _ => hK; apply hK; clear hK))
  refine Tri.ret ⟨_, 0, [], rfl, ?_, ?_, trivial, by simp⟩
  · simp [upd]
    exact Wk.refl _
  · simp [upd]
theorem indexA2 (f : FuncId) (p : Att → Bool) (b bm : Nat) (cs : List C) (h : ∀ x, DoesB Try.prog f [.agg (attC x), .c (.box 100 b 0)] [(100, b, cs)] [] (fun _ => (.c (.bool (p x)), [(100, b, cs)], []))) (l : List Att) (hl : l.length ≤ 1073741824) :
    DoesB Try.prog 58 [.c (.ms 8 101 bm 0 l.length), .c (.fn f [.box 100 b 0])] [(101, bm, flA l), (100, b, cs)] [] (fun _ => (.c (.int .i64 (idxI p l)), [(101, bm, flA l), (100, b, cs)], [])) := by
  refine DoesB.of_body Try.func58 rfl (by kernel_rfl) rfl rfl (by simp) (fun _ => rfl) fun E => ?_
  repeat (first
    | (refine Tri.seq fun K hK => ?_)
    | (refine Tri.region ?_; simp [upd])
    | (refine Tri.draw (by kernel_rfl) (by decide +kernel) ?_; simp [upd])
    | (refine Tri.cond_true ?_ ?_; (focus simp [upd]; done))
    | (refine Tri.cond_false ?_ ?_; (focus simp [upd]; done))
    | (refine Tri.skip ?_; simp only [thenS, blockS])
    | (refine Tri.block_seq ?_)
    | (refine Tri.block_region ?_)
    | (refine Tri.block_cond ?_)
    | (refine Tri.exit ?_; simp [upd]; first | (rename ∀ st, Tri _ _ _ st _ → _ => hK; first | (apply hK; clear hK) | (clear hK; rename ∀ st, Tri _ _ _ st _ → _ => hK; first | (apply hK; clear hK) | (clear hK; rename ∀ st, Tri _ _ _ st _ → _ => hK; first | (apply hK; clear hK) | (clear hK; rename ∀ st, Tri _ _ _ st _ → _ => hK; first | (apply hK; clear hK) | (clear hK; rename ∀ st, Tri _ _ _ st _ → _ => hK; first | (apply hK; clear hK) | (clear hK; rename ∀ st, Tri _ _ _ st _ → _ => hK; apply hK; clear hK)))))) | skip)
    | (intro β)
    | (rename ∀ st, Tri _ _ _ st _ → _ => hK; apply hK; clear hK))
  refine Tri.range 8 7 9 18 19 rfl rfl l.length (fun k st => st.sl 0 = .c (.ms 8 101 bm 0 l.length) ∧ st.sl 1 = .c (.fn f [.box 100 b 0]) ∧ st.bx 100 = some (b, cs) ∧ st.bx 101 = some (bm, flA l) ∧ ∀ j (_ : j < l.length), j < k → p l[j] = false) (by simp) (by omega) ?_ rfl (by simp [upd]) (by simp [upd]) ?_ ?_ ?_
  · rintro k st t v ht ⟨a0, a1, a2, a3, hb⟩
    rcases ht with rfl | rfl | rfl <;> exact ⟨by simpa [upd] using a0, by simpa [upd] using a1, by simpa using a2, by simpa using a3, hb⟩
  · exact ⟨by simp [upd], by simp [upd], by simp, by simp, fun j _ h => by omega⟩
  · rintro k st hk ⟨a0, a1, a2, a3, hb⟩ hn h8 h7
    have g := h l[k]
    have gt := flA_get l k hk
    have gk : k * 8 + 8 ≤ l.length * 8 := by omega
    cases hp : p l[k]
    case true =>
      rw [idxI_at hk hp hb]
      rw [hp] at g
      repeat (first
        | (refine Tri.seq fun K hK => ?_)
        | (refine Tri.region ?_; simp [upd, hn, a0, a1, a2, a3, h8, h7, hk, gt, gk])
        | (refine Tri.draw (by kernel_rfl) (by decide +kernel) ?_; simp [upd, hn, a0, a1, a2, a3, h8, h7, hk, gt, gk])
        | (refine Tri.cond_true ?_ ?_; (focus simp [upd, hn, a0, a1, a2, a3, h8, h7, hk, gt, gk]; done))
        | (refine Tri.cond_false ?_ ?_; (focus simp [upd, hn, a0, a1, a2, a3, h8, h7, hk, gt, gk]; done))
        | (refine Tri.skip ?_; simp only [thenS, blockS])
        | (refine Tri.block_seq ?_)
        | (refine Tri.block_region ?_)
        | (refine Tri.block_cond ?_)
        | (refine CallK.look 100 g (Wks.refl _) ?_ ?_; (focus (simp [upd, a2]; done)); simp [upd, hn, a0, a1, a2, a3, h8, h7, hk, gt, gk])
        | (refine Tri.exit ?_; simp [upd, hn, a0, a1, a2, a3, h8, h7, hk, gt, gk]; first | (rename ∀ st, Tri _ _ _ st _ → _ => hK; first | (apply hK; clear hK) | (clear hK; rename ∀ st, Tri _ _ _ st _ → _ => hK; first | (apply hK; clear hK) | (clear hK; rename ∀ st, Tri _ _ _ st _ → _ => hK; first | (apply hK; clear hK) | (clear hK; rename ∀ st, Tri _ _ _ st _ → _ => hK; first | (apply hK; clear hK) | (clear hK; rename ∀ st, Tri _ _ _ st _ → _ => hK; first | (apply hK; clear hK) | (clear hK; rename ∀ st, Tri _ _ _ st _ → _ => hK; apply hK; clear hK)))))) | skip)
        | (intro β)
        | (rename ∀ st, Tri _ _ _ st _ → _ => hK; apply hK; clear hK))
      refine Tri.ret ⟨_, 0, [], rfl, ?_, ?_, trivial, by simp⟩
      · simp [upd, a2, a3]
        exact Wk.refl _
      · simp [upd, a2, a3]
    rw [hp] at g
    repeat (first
      | (refine Tri.seq fun K hK => ?_)
      | (refine Tri.region ?_; simp [upd, hn, a0, a1, a2, a3, h8, h7, hk, gt, gk])
      | (refine Tri.draw (by kernel_rfl) (by decide +kernel) ?_; simp [upd, hn, a0, a1, a2, a3, h8, h7, hk, gt, gk])
      | (refine Tri.cond_true ?_ ?_; (focus simp [upd, hn, a0, a1, a2, a3, h8, h7, hk, gt, gk]; done))
      | (refine Tri.cond_false ?_ ?_; (focus simp [upd, hn, a0, a1, a2, a3, h8, h7, hk, gt, gk]; done))
      | (refine Tri.skip ?_; simp only [thenS, blockS])
      | (refine Tri.block_seq ?_)
      | (refine Tri.block_region ?_)
      | (refine Tri.block_cond ?_)
      | (refine CallK.look 100 g (Wks.refl _) ?_ ?_; (focus (simp [upd, a2]; done)); simp [upd, hn, a0, a1, a2, a3, h8, h7, hk, gt, gk])
      | (refine Tri.exit ?_; simp [upd, hn, a0, a1, a2, a3, h8, h7, hk, gt, gk]; first | (rename ∀ st, Tri _ _ _ st _ → _ => hK; first | (apply hK; clear hK) | (clear hK; rename ∀ st, Tri _ _ _ st _ → _ => hK; first | (apply hK; clear hK) | (clear hK; rename ∀ st, Tri _ _ _ st _ → _ => hK; first | (apply hK; clear hK) | (clear hK; rename ∀ st, Tri _ _ _ st _ → _ => hK; first | (apply hK; clear hK) | (clear hK; rename ∀ st, Tri _ _ _ st _ → _ => hK; first | (apply hK; clear hK) | (clear hK; rename ∀ st, Tri _ _ _ st _ → _ => hK; apply hK; clear hK)))))) | skip)
      | (intro β)
      | (rename ∀ st, Tri _ _ _ st _ → _ => hK; apply hK; clear hK))
    try simp [upd, h8, h7, a0, a1, a2, a3]
    intro j hj hjk
    rcases Nat.lt_succ_iff_lt_or_eq.1 hjk with h' | rfl
    · exact hb j hj h'
    · exact hp
  · rintro st ⟨a0, a1, a2, a3, hb⟩ hn
    rename ∀ st, Tri _ _ _ st _ → _ => hK
    apply hK
    rw [idxI_none (p := p) (l := l) fun j hj => hb j hj hj]
    repeat (first
      | (refine Tri.seq fun K hK => ?_)
      | (refine Tri.region ?_; simp [upd, hn, a2, a3])
      | (refine Tri.draw (by kernel_rfl) (by decide +kernel) ?_; simp [upd, hn, a2, a3])
      | (refine Tri.cond_true ?_ ?_; (focus simp [upd, hn, a2, a3]; done))
      | (refine Tri.cond_false ?_ ?_; (focus simp [upd, hn, a2, a3]; done))
      | (refine Tri.skip ?_; simp only [thenS, blockS])
      | (refine Tri.block_seq ?_)
      | (refine Tri.block_region ?_)
      | (refine Tri.block_cond ?_)
      | (refine Tri.exit ?_; simp [upd, hn, a2, a3]; first | (rename ∀ st, Tri _ _ _ st _ → _ => hK; first | (apply hK; clear hK) | (clear hK; rename ∀ st, Tri _ _ _ st _ → _ => hK; first | (apply hK; clear hK) | (clear hK; rename ∀ st, Tri _ _ _ st _ → _ => hK; first | (apply hK; clear hK) | (clear hK; rename ∀ st, Tri _ _ _ st _ → _ => hK; first | (apply hK; clear hK) | (clear hK; rename ∀ st, Tri _ _ _ st _ → _ => hK; first | (apply hK; clear hK) | (clear hK; rename ∀ st, Tri _ _ _ st _ → _ => hK; apply hK; clear hK)))))) | skip)
      | (intro β)
      | (rename ∀ st, Tri _ _ _ st _ → _ => hK; apply hK; clear hK))
    refine Tri.ret ⟨_, 0, [], rfl, ?_, ?_, trivial, by simp⟩
    · simp [upd, a2, a3]
      exact Wk.refl _
    · simp [upd, a2, a3]
theorem indexD2 (f : FuncId) (p : Del → Bool) (b bm : Nat) (cs : List C) (h : ∀ x, DoesB Try.prog f [.agg (delC x), .c (.box 100 b 0)] [(100, b, cs)] [] (fun _ => (.c (.bool (p x)), [(100, b, cs)], []))) (l : List Del) (hl : l.length ≤ 1073741824) :
    DoesB Try.prog 59 [.c (.ms 3 101 bm 0 l.length), .c (.fn f [.box 100 b 0])] [(101, bm, flD l), (100, b, cs)] [] (fun _ => (.c (.int .i64 (idxI p l)), [(101, bm, flD l), (100, b, cs)], [])) := by
  refine DoesB.of_body Try.func59 rfl (by kernel_rfl) rfl rfl (by simp) (fun _ => rfl) fun E => ?_
  repeat (first
    | (refine Tri.seq fun K hK => ?_)
    | (refine Tri.region ?_; simp [upd])
    | (refine Tri.draw (by kernel_rfl) (by decide +kernel) ?_; simp [upd])
    | (refine Tri.cond_true ?_ ?_; (focus simp [upd]; done))
    | (refine Tri.cond_false ?_ ?_; (focus simp [upd]; done))
    | (refine Tri.skip ?_; simp only [thenS, blockS])
    | (refine Tri.block_seq ?_)
    | (refine Tri.block_region ?_)
    | (refine Tri.block_cond ?_)
    | (refine Tri.exit ?_; simp [upd]; first | (rename ∀ st, Tri _ _ _ st _ → _ => hK; first | (apply hK; clear hK) | (clear hK; rename ∀ st, Tri _ _ _ st _ → _ => hK; first | (apply hK; clear hK) | (clear hK; rename ∀ st, Tri _ _ _ st _ → _ => hK; first | (apply hK; clear hK) | (clear hK; rename ∀ st, Tri _ _ _ st _ → _ => hK; first | (apply hK; clear hK) | (clear hK; rename ∀ st, Tri _ _ _ st _ → _ => hK; first | (apply hK; clear hK) | (clear hK; rename ∀ st, Tri _ _ _ st _ → _ => hK; apply hK; clear hK)))))) | skip)
    | (intro β)
    | (rename ∀ st, Tri _ _ _ st _ → _ => hK; apply hK; clear hK))
  refine Tri.range 8 7 9 18 19 rfl rfl l.length (fun k st => st.sl 0 = .c (.ms 3 101 bm 0 l.length) ∧ st.sl 1 = .c (.fn f [.box 100 b 0]) ∧ st.bx 100 = some (b, cs) ∧ st.bx 101 = some (bm, flD l) ∧ ∀ j (_ : j < l.length), j < k → p l[j] = false) (by simp) (by omega) ?_ rfl (by simp [upd]) (by simp [upd]) ?_ ?_ ?_
  · rintro k st t v ht ⟨a0, a1, a2, a3, hb⟩
    rcases ht with rfl | rfl | rfl <;> exact ⟨by simpa [upd] using a0, by simpa [upd] using a1, by simpa using a2, by simpa using a3, hb⟩
  · exact ⟨by simp [upd], by simp [upd], by simp, by simp, fun j _ h => by omega⟩
  · rintro k st hk ⟨a0, a1, a2, a3, hb⟩ hn h8 h7
    have g := h l[k]
    have gt := flD_get l k hk
    have gk : k * 3 + 3 ≤ l.length * 3 := by omega
    cases hp : p l[k]
    case true =>
      rw [idxI_at hk hp hb]
      rw [hp] at g
      repeat (first
        | (refine Tri.seq fun K hK => ?_)
        | (refine Tri.region ?_; simp [upd, hn, a0, a1, a2, a3, h8, h7, hk, gt, gk])
        | (refine Tri.draw (by kernel_rfl) (by decide +kernel) ?_; simp [upd, hn, a0, a1, a2, a3, h8, h7, hk, gt, gk])
        | (refine Tri.cond_true ?_ ?_; (focus simp [upd, hn, a0, a1, a2, a3, h8, h7, hk, gt, gk]; done))
        | (refine Tri.cond_false ?_ ?_; (focus simp [upd, hn, a0, a1, a2, a3, h8, h7, hk, gt, gk]; done))
        | (refine Tri.skip ?_; simp only [thenS, blockS])
        | (refine Tri.block_seq ?_)
        | (refine Tri.block_region ?_)
        | (refine Tri.block_cond ?_)
        | (refine CallK.look 100 g (Wks.refl _) ?_ ?_; (focus (simp [upd, a2]; done)); simp [upd, hn, a0, a1, a2, a3, h8, h7, hk, gt, gk])
        | (refine Tri.exit ?_; simp [upd, hn, a0, a1, a2, a3, h8, h7, hk, gt, gk]; first | (rename ∀ st, Tri _ _ _ st _ → _ => hK; first | (apply hK; clear hK) | (clear hK; rename ∀ st, Tri _ _ _ st _ → _ => hK; first | (apply hK; clear hK) | (clear hK; rename ∀ st, Tri _ _ _ st _ → _ => hK; first | (apply hK; clear hK) | (clear hK; rename ∀ st, Tri _ _ _ st _ → _ => hK; first | (apply hK; clear hK) | (clear hK; rename ∀ st, Tri _ _ _ st _ → _ => hK; first | (apply hK; clear hK) | (clear hK; rename ∀ st, Tri _ _ _ st _ → _ => hK; apply hK; clear hK)))))) | skip)
        | (intro β)
        | (rename ∀ st, Tri _ _ _ st _ → _ => hK; apply hK; clear hK))
      refine Tri.ret ⟨_, 0, [], rfl, ?_, ?_, trivial, by simp⟩
      · simp [upd, a2, a3]
        exact Wk.refl _
      · simp [upd, a2, a3]
    rw [hp] at g
    repeat (first
      | (refine Tri.seq fun K hK => ?_)
      | (refine Tri.region ?_; simp [upd, hn, a0, a1, a2, a3, h8, h7, hk, gt, gk])
      | (refine Tri.draw (by kernel_rfl) (by decide +kernel) ?_; simp [upd, hn, a0, a1, a2, a3, h8, h7, hk, gt, gk])
      | (refine Tri.cond_true ?_ ?_; (focus simp [upd, hn, a0, a1, a2, a3, h8, h7, hk, gt, gk]; done))
      | (refine Tri.cond_false ?_ ?_; (focus simp [upd, hn, a0, a1, a2, a3, h8, h7, hk, gt, gk]; done))
      | (refine Tri.skip ?_; simp only [thenS, blockS])
      | (refine Tri.block_seq ?_)
      | (refine Tri.block_region ?_)
      | (refine Tri.block_cond ?_)
      | (refine CallK.look 100 g (Wks.refl _) ?_ ?_; (focus (simp [upd, a2]; done)); simp [upd, hn, a0, a1, a2, a3, h8, h7, hk, gt, gk])
      | (refine Tri.exit ?_; simp [upd, hn, a0, a1, a2, a3, h8, h7, hk, gt, gk]; first | (rename ∀ st, Tri _ _ _ st _ → _ => hK; first | (apply hK; clear hK) | (clear hK; rename ∀ st, Tri _ _ _ st _ → _ => hK; first | (apply hK; clear hK) | (clear hK; rename ∀ st, Tri _ _ _ st _ → _ => hK; first | (apply hK; clear hK) | (clear hK; rename ∀ st, Tri _ _ _ st _ → _ => hK; first | (apply hK; clear hK) | (clear hK; rename ∀ st, Tri _ _ _ st _ → _ => hK; first | (apply hK; clear hK) | (clear hK; rename ∀ st, Tri _ _ _ st _ → _ => hK; apply hK; clear hK)))))) | skip)
      | (intro β)
      | (rename ∀ st, Tri _ _ _ st _ → _ => hK; apply hK; clear hK))
    try simp [upd, h8, h7, a0, a1, a2, a3]
    intro j hj hjk
    rcases Nat.lt_succ_iff_lt_or_eq.1 hjk with h' | rfl
    · exact hb j hj h'
    · exact hp
  · rintro st ⟨a0, a1, a2, a3, hb⟩ hn
    rename ∀ st, Tri _ _ _ st _ → _ => hK
    apply hK
    rw [idxI_none (p := p) (l := l) fun j hj => hb j hj hj]
    repeat (first
      | (refine Tri.seq fun K hK => ?_)
      | (refine Tri.region ?_; simp [upd, hn, a2, a3])
      | (refine Tri.draw (by kernel_rfl) (by decide +kernel) ?_; simp [upd, hn, a2, a3])
      | (refine Tri.cond_true ?_ ?_; (focus simp [upd, hn, a2, a3]; done))
      | (refine Tri.cond_false ?_ ?_; (focus simp [upd, hn, a2, a3]; done))
      | (refine Tri.skip ?_; simp only [thenS, blockS])
      | (refine Tri.block_seq ?_)
      | (refine Tri.block_region ?_)
      | (refine Tri.block_cond ?_)
      | (refine Tri.exit ?_; simp [upd, hn, a2, a3]; first | (rename ∀ st, Tri _ _ _ st _ → _ => hK; first | (apply hK; clear hK) | (clear hK; rename ∀ st, Tri _ _ _ st _ → _ => hK; first | (apply hK; clear hK) | (clear hK; rename ∀ st, Tri _ _ _ st _ → _ => hK; first | (apply hK; clear hK) | (clear hK; rename ∀ st, Tri _ _ _ st _ → _ => hK; first | (apply hK; clear hK) | (clear hK; rename ∀ st, Tri _ _ _ st _ → _ => hK; first | (apply hK; clear hK) | (clear hK; rename ∀ st, Tri _ _ _ st _ → _ => hK; apply hK; clear hK)))))) | skip)
      | (intro β)
      | (rename ∀ st, Tri _ _ _ st _ → _ => hK; apply hK; clear hK))
    refine Tri.ret ⟨_, 0, [], rfl, ?_, ?_, trivial, by simp⟩
    · simp [upd, a2, a3]
      exact Wk.refl _
    · simp [upd, a2, a3]
end Go.Proofs.Ytcohdlochpjnjaa
end
section
open Go Go.Vm
namespace Go.Proofs.Ytcohdlochpjnjaa
set_option maxRecDepth 100000
set_option maxHeartbeats 4000000
set_option linter.unusedSimpArgs false
attribute [-simp] isObj C.isO
attribute [local irreducible] Tri Does DoesB Rounds idxI
theorem idxI_cases {α : Type} (p : α → Bool) (l : List α) : (idxI p l = -1 ∧ ∀ x ∈ l, p x = false) ∨ ∃ i, ∃ h : i < l.length, idxI p l = (i : Nat) ∧ p l[i] = true ∧ ∀ j (_ : j < l.length), j < i → p l[j] = false := by
  cases h : l.findIdx? p with
  | none =>
    have := List.findIdx?_eq_none_iff.1 h
    exact .inl ⟨idxI_none fun j hj => this _ (List.getElem_mem hj), this⟩
  | some i =>
    obtain ⟨h1, h2, h3⟩ := List.findIdx?_eq_some_iff_getElem.1 h
    have h3' : ∀ j (_ : j < l.length), j < i → p l[j] = false := fun j hj hji => by simpa using h3 j hji
    exact .inr ⟨i, h1, idxI_at h1 h2 h3', h2, h3'⟩
def nt {α : Type} (p : α → Bool) (l : List α) : List α := l.filter fun x => !p x
theorem nt_take {α : Type} (p : α → Bool) (l : List α) (k : Nat) (hk : k < l.length) : nt p (l.take (k + 1)) = nt p (l.take k) ++ if p l[k] = true then [] else [l[k]] := by
  rw [List.take_succ_eq_append_getElem hk]
  unfold nt
  rw [List.filter_append]
  cases h : p l[k] <;> simp [h]
theorem nt_self {α : Type} (p : α → Bool) (l : List α) (h : ∀ x ∈ l, p x = false) : nt p l = l := List.filter_eq_self.2 fun x hx => by simp [h x hx]
theorem nt_le {α : Type} (p : α → Bool) (l : List α) : (nt p l).length ≤ l.length := List.length_filter_le ..
structure DE {α : Type} (p : α → Bool) (l D : List α) (i j : Nat) : Prop where
  dl : D.length = l.length
  ij : i < j
  jl : j ≤ l.length
  tk : D.take i = nt p (l.take j)
  dr : ∀ k (h : k < l.length), j ≤ k → D[k]'(by omega) = l[k]
theorem DE.start {α : Type} {p : α → Bool} {l : List α} {i : Nat} (h : i < l.length) (hp : p l[i] = true) (hb : ∀ j (_ : j < l.length), j < i → p l[j] = false) : DE p l l i (i + 1) where
  dl := rfl
  ij := by omega
  jl := h
  tk := by
    rw [nt_take p l i h, if_pos hp, List.append_nil]
    refine (nt_self p _ fun x hx => ?_).symm
    obtain ⟨k, hk, rfl⟩ := List.getElem_of_mem hx
    rw [List.getElem_take]
    exact hb k (by simp at hk; omega) (by simp at hk; omega)
  dr := fun _ _ _ => rfl
theorem DE.drop {α : Type} {p : α → Bool} {l D : List α} {i j : Nat} (h : DE p l D i j) (hj : j < l.length) (hp : p l[j] = true) : DE p l D i (j + 1) where
  dl := h.dl
  ij := by have := h.ij; omega
  jl := hj
  tk := by rw [nt_take p l j hj, if_pos hp, List.append_nil]; exact h.tk
  dr := fun k hk hjk => h.dr k hk (by omega)
theorem DE.keep {α : Type} {p : α → Bool} {l D : List α} {i j : Nat} (h : DE p l D i j) (hj : j < l.length) (hp : p l[j] = false) : DE p l (D.set i l[j]) (i + 1) (j + 1) where
  dl := by rw [List.length_set]; exact h.dl
  ij := by have := h.ij; omega
  jl := hj
  tk := by
    have hi : i < (D.set i l[j]).length := by have := h.dl; have := h.ij; rw [List.length_set]; omega
    rw [nt_take p l j hj, if_neg (by simp [hp]), List.take_succ_eq_append_getElem hi, List.take_set_of_le (Nat.le_refl _), h.tk]
    simp
  dr := fun k hk hjk => by
    have := h.ij
    rw [List.getElem_set_ne (by omega)]
    exact h.dr k hk (by omega)
theorem DE.end {α : Type} {p : α → Bool} {l D : List α} {i : Nat} (h : DE p l D i l.length) : D.take i = nt p l ∧ i = (nt p l).length := by
  have := h.tk
  rw [List.take_length] at this
  have hi : i ≤ D.length := by have := h.dl; have := h.ij; omega
  exact ⟨this, by rw [← this, List.length_take, Nat.min_eq_left hi]⟩
structure DS (f : FuncId) (b bm n len : Nat) (cs fl : List C) (st : St) (i j : Nat) : Prop where
  hn : st.n = 42
  s0 : st.sl 0 = .c (.ms n 101 bm 0 len)
  s1 : st.sl 1 = .c (.fn f [.box 100 b 0])
  x0 : st.bx 100 = some (b, cs)
  x1 : st.bx 101 = some (bm, fl)
  s5 : st.sl 5 = .c (.int .i64 (i : Nat))
  s6 : st.sl 6 = .c (.int .i64 (j : Nat))
def DInvA (f : FuncId) (p : Att → Bool) (b bm : Nat) (cs : List C) (l : List Att) (m : Nat) (st : St) : Prop := ∃ D i j, m + j = l.length ∧ DS f b bm 8 l.length cs (flA D) st i j ∧ DE p l D i j
def DInvD (f : FuncId) (p : Del → Bool) (b bm : Nat) (cs : List C) (l : List Del) (m : Nat) (st : St) : Prop := ∃ D i j, m + j = l.length ∧ DS f b bm 3 l.length cs (flD D) st i j ∧ DE p l D i j
theorem deleteA (f : FuncId) (p : Att → Bool) (b bm : Nat) (cs : List C) (h : ∀ x, DoesB Try.prog f [.agg (attC x), .c (.box 100 b 0)] [(100, b, cs)] [] (fun _ => (.c (.bool (p x)), [(100, b, cs)], []))) (l : List Att) (hl : l.length ≤ 1073741824) :
    DoesB Try.prog 34 [.c (.ms 8 101 bm 0 l.length), .c (.fn f [.box 100 b 0])] [(101, bm, flA l), (100, b, cs)] [] (fun _ => (.c (.ms 8 101 bm 0 (nt p l).length), [(101, bm, flA (nt p l) ++ List.replicate ((l.length - (nt p l).length) * 8) .any), (100, b, cs)], [])) := by
  have hi := indexA2 f p b bm cs h l hl
  rcases idxI_cases p l with ⟨e, hnone⟩ | ⟨i0, hi0, e, hp0, hb0⟩
  · rw [e] at hi
    have eq : nt p l = l := nt_self p l hnone
    refine DoesB.of_body Try.func34 rfl (by kernel_rfl) rfl rfl (by simp) (fun _ => rfl) fun E => ?_
    rw [eq]
    repeat (first
      | (refine Tri.seq fun K hK => ?_)
      | (refine Tri.region ?_; simp [upd])
      | (refine Tri.draw (by kernel_rfl) (by decide +kernel) ?_; simp [upd])
      | (refine Tri.cond_true ?_ ?_; (focus simp [upd]; done))
      | (refine Tri.cond_false ?_ ?_; (focus simp [upd]; done))
      | (refine Tri.skip ?_; simp only [thenS, blockS])
      | (refine Tri.block_seq ?_)
      | (refine Tri.block_region ?_)
      | (refine Tri.block_cond ?_)
      | (refine CallK.look2 101 100 hi (Wks.refl _) ?_ ?_ (by decide) ?_; (focus (simp [upd]; done)); (focus (simp [upd]; done)); simp [upd])
      | (refine Tri.exit ?_; simp [upd]; first | (rename ∀ st, Tri _ _ _ st _ → _ => hK; first | (apply hK; clear hK) | (clear hK; rename ∀ st, Tri _ _ _ st _ → _ => hK; first | (apply hK; clear hK) | (clear hK; rename ∀ st, Tri _ _ _ st _ → _ => hK; first | (apply hK; clear hK) | (clear hK; rename ∀ st, Tri _ _ _ st _ → _ => hK; first | (apply hK; clear hK) | (clear hK; rename ∀ st, Tri _ _ _ st _ → _ => hK; first | (apply hK; clear hK) | (clear hK; rename ∀ st, Tri _ _ _ st _ → _ => hK; apply hK; clear hK)))))) | skip)
      | (intro β)
      | (rename ∀ st, Tri _ _ _ st _ → _ => hK; apply hK; clear hK))
    refine Tri.ret ⟨_, 0, [], rfl, ?_, ?_, trivial, by simp⟩
    · simp [upd]
      exact Wk.refl _
    · simp [upd]
  rw [e] at hi
  refine DoesB.of_body Try.func34 rfl (by kernel_rfl) rfl rfl (by simp) (fun _ => rfl) fun E => ?_
  have ew : IntKind.i64.wrap ((i0 : Int) + 1) = (i0 : Int) + 1 := wrap_i64 (by omega) (by omega)
  have en : ¬ ((i0 : Int) = -1) := by omega
  repeat (first
    | (refine Tri.seq fun K hK => ?_)
    | (refine Tri.region ?_; simp [upd, en, ew])
    | (refine Tri.draw (by kernel_rfl) (by decide +kernel) ?_; simp [upd, en, ew])
    | (refine Tri.cond_true ?_ ?_; (focus simp [upd, en, ew]; done))
    | (refine Tri.cond_false ?_ ?_; (focus simp [upd, en, ew]; done))
    | (refine Tri.skip ?_; simp only [thenS, blockS])
    | (refine Tri.block_seq ?_)
    | (refine Tri.block_region ?_)
    | (refine Tri.block_cond ?_)
    | (refine CallK.look2 101 100 hi (Wks.refl _) ?_ ?_ (by decide) ?_; (focus (simp [upd]; done)); (focus (simp [upd]; done)); simp [upd, en, ew])
    | (refine Tri.exit ?_; simp [upd, en, ew]; first | (rename ∀ st, Tri _ _ _ st _ → _ => hK; first | (apply hK; clear hK) | (clear hK; rename ∀ st, Tri _ _ _ st _ → _ => hK; first | (apply hK; clear hK) | (clear hK; rename ∀ st, Tri _ _ _ st _ → _ => hK; first | (apply hK; clear hK) | (clear hK; rename ∀ st, Tri _ _ _ st _ → _ => hK; first | (apply hK; clear hK) | (clear hK; rename ∀ st, Tri _ _ _ st _ → _ => hK; first | (apply hK; clear hK) | (clear hK; rename ∀ st, Tri _ _ _ st _ → _ => hK; apply hK; clear hK)))))) | skip)
    | (intro β)
    | (rename ∀ st, Tri _ _ _ st _ → _ => hK; apply hK; clear hK))
  rename ∀ st, Tri _ _ _ st _ → _ => hK
  have fin := fun (st : St) (h : ∃ D i, DS f b bm 8 l.length cs (flA D) st i l.length ∧ DE p l D i l.length) => hK st ?tail
  case tail =>
    obtain ⟨D, i, ⟨hn, s0, s1, x0, x1, s5, s6⟩, hE⟩ := h
    obtain ⟨e1, e2⟩ := hE.end
    have hdl := hE.dl
    have hle := nt_le p l
    have hil : i ≤ l.length := by omega
    have gt := flA_take D i (by omega)
    have gl : i * 8 + (l.length - i) * 8 = l.length * 8 := by rw [← Nat.add_mul]; congr 1; omega
    have gd : List.drop (l.length * 8) (flA D) = [] := List.drop_eq_nil_of_le (by simp [hdl])
    have gi : i + (l.length - i) = l.length := by omega
    repeat (first
      | (refine Tri.seq fun K hK => ?_)
      | (refine Tri.region ?_; simp [upd, hn, s0, s1, x0, x1, s5, s6, hdl, gt, gl, gd, gi, hil])
      | (refine Tri.draw (by kernel_rfl) (by decide +kernel) ?_; simp [upd, hn, s0, s1, x0, x1, s5, s6, hdl, gt, gl, gd, gi, hil])
      | (refine Tri.cond_true ?_ ?_; (focus simp [upd, hn, s0, s1, x0, x1, s5, s6, hdl, gt, gl, gd, gi, hil]; done))
      | (refine Tri.cond_false ?_ ?_; (focus simp [upd, hn, s0, s1, x0, x1, s5, s6, hdl, gt, gl, gd, gi, hil]; done))
      | (refine Tri.skip ?_; simp only [thenS, blockS])
      | (refine Tri.block_seq ?_)
      | (refine Tri.block_region ?_)
      | (refine Tri.block_cond ?_)
      | (refine Tri.exit ?_; simp [upd, hn, s0, s1, x0, x1, s5, s6, hdl, gt, gl, gd, gi, hil]; first | (rename ∀ st, Tri _ _ _ st _ → _ => hK; first | (apply hK; clear hK) | (clear hK; rename ∀ st, Tri _ _ _ st _ → _ => hK; first | (apply hK; clear hK) | (clear hK; rename ∀ st, Tri _ _ _ st _ → _ => hK; first | (apply hK; clear hK) | (clear hK; rename ∀ st, Tri _ _ _ st _ → _ => hK; first | (apply hK; clear hK) | (clear hK; rename ∀ st, Tri _ _ _ st _ → _ => hK; first | (apply hK; clear hK) | (clear hK; rename ∀ st, Tri _ _ _ st _ → _ => hK; apply hK; clear hK)))))) | skip)
      | (intro β)
      | (rename ∀ st, Tri _ _ _ st _ → _ => hK; apply hK; clear hK))
    refine Tri.ret ⟨_, 0, [], rfl, ?_, ?_, trivial, by simp⟩
    · simp [upd, e2]
      exact Wk.refl _
    · simp [upd, x0, x1, e2, e1, gt]
      rw [← e2, e1]
  clear hK
  refine Tri.block (Tri.loop (DInvA f p b bm cs l) (l.length - (i0 + 1)) ?_ ?_)
  · exact ⟨l, i0, i0 + 1, by omega, ⟨rfl, by simp [upd], by simp [upd], by simp [upd], by simp [upd], by simp [upd], by simp [upd]⟩, .start hi0 hp0 hb0⟩
  rintro m st ⟨D, i, j, hm, ⟨hn, s0, s1, x0, x1, s5, s6⟩, hE⟩
  by_cases hj : j < l.length
  case neg =>
    have hjl : j = l.length := by have := hE.jl; omega
    subst hjl
    repeat (first
      | (refine Tri.seq fun K hK => ?_)
      | (refine Tri.region ?_; simp [upd, hn, s0, s1, x0, x1, s5, s6, hj])
      | (refine Tri.draw (by kernel_rfl) (by decide +kernel) ?_; simp [upd, hn, s0, s1, x0, x1, s5, s6, hj])
      | (refine Tri.cond_true ?_ ?_; (focus simp [upd, hn, s0, s1, x0, x1, s5, s6, hj]; done))
      | (refine Tri.cond_false ?_ ?_; (focus simp [upd, hn, s0, s1, x0, x1, s5, s6, hj]; done))
      | (refine Tri.skip ?_; simp only [thenS, blockS])
      | (refine Tri.block_seq ?_)
      | (refine Tri.block_region ?_)
      | (refine Tri.block_cond ?_)
      | (refine Tri.exit ?_; simp [upd, hn, s0, s1, x0, x1, s5, s6, hj]; first | (rename ∀ st, Tri _ _ _ st _ → _ => hK; first | (apply hK; clear hK) | (clear hK; rename ∀ st, Tri _ _ _ st _ → _ => hK; first | (apply hK; clear hK) | (clear hK; rename ∀ st, Tri _ _ _ st _ → _ => hK; first | (apply hK; clear hK) | (clear hK; rename ∀ st, Tri _ _ _ st _ → _ => hK; first | (apply hK; clear hK) | (clear hK; rename ∀ st, Tri _ _ _ st _ → _ => hK; first | (apply hK; clear hK) | (clear hK; rename ∀ st, Tri _ _ _ st _ → _ => hK; apply hK; clear hK)))))) | skip)
      | (intro β)
      | (rename ∀ st, Tri _ _ _ st _ → _ => hK; apply hK; clear hK))
    apply fin
    exact ⟨D, i, ⟨rfl, by simp [upd, s0], by simp [upd, s1], by simp [upd, x0], by simp [upd, x1], by simp [upd, s5], by simp [upd, s6]⟩, hE⟩
  have hij := hE.ij
  have hdl := hE.dl
  have hw : IntKind.i64.wrap ((j : Int) + 1) = (j : Int) + 1 := wrap_i64 (by omega) (by omega)
  have hw2 : IntKind.i64.wrap ((i : Int) + 1) = (i : Int) + 1 := wrap_i64 (by omega) (by omega)
  have gt := flA_get D j (by omega)
  rw [hE.dr j hj (Nat.le_refl _)] at gt
  have gk : j * 8 + 8 ≤ l.length * 8 := by omega
  have gk2 : i * 8 + 8 ≤ l.length * 8 := by omega
  have hil : i < l.length := by omega
  have g := h l[j]
  have gs := flA_set D i (by omega) l[j]
  simp only [attC, List.cons_append, List.nil_append] at gs
  cases hp : p l[j]
  case true =>
    rw [hp] at g
    repeat (first
      | (refine Tri.seq fun K hK => ?_)
      | (refine Tri.region ?_; simp [upd, hn, s0, s1, x0, x1, s5, s6, hj, hdl, hw, gt, gk])
      | (refine Tri.draw (by kernel_rfl) (by decide +kernel) ?_; simp [upd, hn, s0, s1, x0, x1, s5, s6, hj, hdl, hw, gt, gk])
      | (refine Tri.cond_true ?_ ?_; (focus simp [upd, hn, s0, s1, x0, x1, s5, s6, hj, hdl, hw, gt, gk]; done))
      | (refine Tri.cond_false ?_ ?_; (focus simp [upd, hn, s0, s1, x0, x1, s5, s6, hj, hdl, hw, gt, gk]; done))
      | (refine Tri.skip ?_; simp only [thenS, blockS])
      | (refine Tri.block_seq ?_)
      | (refine Tri.block_region ?_)
      | (refine Tri.block_cond ?_)
      | (refine CallK.look 100 g (Wks.refl _) ?_ ?_; (focus (simp [upd, x0]; done)); simp [upd, hn, s0, s1, x0, x1, s5, s6, hj, hdl, hw, gt, gk])
      | (refine Tri.exit ?_; simp [upd, hn, s0, s1, x0, x1, s5, s6, hj, hdl, hw, gt, gk]; first | (rename ∀ st, Tri _ _ _ st _ → _ => hK; first | (apply hK; clear hK) | (clear hK; rename ∀ st, Tri _ _ _ st _ → _ => hK; first | (apply hK; clear hK) | (clear hK; rename ∀ st, Tri _ _ _ st _ → _ => hK; first | (apply hK; clear hK) | (clear hK; rename ∀ st, Tri _ _ _ st _ → _ => hK; first | (apply hK; clear hK) | (clear hK; rename ∀ st, Tri _ _ _ st _ → _ => hK; first | (apply hK; clear hK) | (clear hK; rename ∀ st, Tri _ _ _ st _ → _ => hK; apply hK; clear hK)))))) | skip)
      | (intro β)
      | (rename ∀ st, Tri _ _ _ st _ → _ => hK; apply hK; clear hK))
    exact ⟨m - 1, by omega, D, i, j + 1, by omega, ⟨rfl, by simp [upd, s0], by simp [upd, s1], by simp [upd, x0], by simp [upd, x1], by simp [upd, s5], by simp [upd, s6]⟩, hE.drop hj hp⟩
  rw [hp] at g
  repeat (first
    | (refine Tri.seq fun K hK => ?_)
    | (refine Tri.region ?_; simp [upd, hn, s0, s1, x0, x1, s5, s6, hj, hdl, hw, hw2, gt, gk, gk2, hil, gs])
    | (refine Tri.draw (by kernel_rfl) (by decide +kernel) ?_; simp [upd, hn, s0, s1, x0, x1, s5, s6, hj, hdl, hw, hw2, gt, gk, gk2, hil, gs])
    | (refine Tri.cond_true ?_ ?_; (focus simp [upd, hn, s0, s1, x0, x1, s5, s6, hj, hdl, hw, hw2, gt, gk, gk2, hil, gs]; done))
    | (refine Tri.cond_false ?_ ?_; (focus simp [upd, hn, s0, s1, x0, x1, s5, s6, hj, hdl, hw, hw2, gt, gk, gk2, hil, gs]; done))
    | (refine Tri.skip ?_; simp only [thenS, blockS])
    | (refine Tri.block_seq ?_)
    | (refine Tri.block_region ?_)
    | (refine Tri.block_cond ?_)
    | (refine CallK.look 100 g (Wks.refl _) ?_ ?_; (focus (simp [upd, x0]; done)); simp [upd, hn, s0, s1, x0, x1, s5, s6, hj, hdl, hw, hw2, gt, gk, gk2, hil, gs])
    | (refine Tri.exit ?_; simp [upd, hn, s0, s1, x0, x1, s5, s6, hj, hdl, hw, hw2, gt, gk, gk2, hil, gs]; first | (rename ∀ st, Tri _ _ _ st _ → _ => hK; first | (apply hK; clear hK) | (clear hK; rename ∀ st, Tri _ _ _ st _ → _ => hK; first | (apply hK; clear hK) | (clear hK; rename ∀ st, Tri _ _ _ st _ → _ => hK; first | (apply hK; clear hK) | (clear hK; rename ∀ st, Tri _ _ _ st _ → _ => hK; first | (apply hK; clear hK) | (clear hK; rename ∀ st, Tri _ _ _ st _ → _ => hK; first | (apply hK; clear hK) | (clear hK; rename ∀ st, Tri _ _ _ st _ → _ => hK; apply hK; clear hK)))))) | skip)
    | (intro β)
    | (rename ∀ st, Tri _ _ _ st _ → _ => hK; apply hK; clear hK))
  exact ⟨m - 1, by omega, D.set i l[j], i + 1, j + 1, by omega, ⟨rfl, by simp [upd, s0], by simp [upd, s1], by simp [upd, x0], by simp [upd, gs], by simp [upd, s5], by simp [upd, s6]⟩, hE.keep hj hp⟩
theorem deleteD (f : FuncId) (p : Del → Bool) (b bm : Nat) (cs : List C) (h : ∀ x, DoesB Try.prog f [.agg (delC x), .c (.box 100 b 0)] [(100, b, cs)] [] (fun _ => (.c (.bool (p x)), [(100, b, cs)], []))) (l : List Del) (hl : l.length ≤ 1073741824) :
    DoesB Try.prog 36 [.c (.ms 3 101 bm 0 l.length), .c (.fn f [.box 100 b 0])] [(101, bm, flD l), (100, b, cs)] [] (fun _ => (.c (.ms 3 101 bm 0 (nt p l).length), [(101, bm, flD (nt p l) ++ List.replicate ((l.length - (nt p l).length) * 3) .any), (100, b, cs)], [])) := by
  have hi := indexD2 f p b bm cs h l hl
  rcases idxI_cases p l with ⟨e, hnone⟩ | ⟨i0, hi0, e, hp0, hb0⟩
  · rw [e] at hi
    have eq : nt p l = l := nt_self p l hnone
    refine DoesB.of_body Try.func36 rfl (by kernel_rfl) rfl rfl (by simp) (fun _ => rfl) fun E => ?_
    rw [eq]
    repeat (first
      | (refine Tri.seq fun K hK => ?_)
      | (refine Tri.region ?_; simp [upd])
      | (refine Tri.draw (by kernel_rfl) (by decide +kernel) ?_; simp [upd])
      | (refine Tri.cond_true ?_ ?_; (focus simp [upd]; done))
      | (refine Tri.cond_false ?_ ?_; (focus simp [upd]; done))
      | (refine Tri.skip ?_; simp only [thenS, blockS])
      | (refine Tri.block_seq ?_)
      | (refine Tri.block_region ?_)
      | (refine Tri.block_cond ?_)
      | (refine CallK.look2 101 100 hi (Wks.refl _) ?_ ?_ (by decide) ?_; (focus (simp [upd]; done)); (focus (simp [upd]; done)); simp [upd])
      | (refine Tri.exit ?_; simp [upd]; first | (rename ∀ st, Tri _ _ _ st _ → _ => hK; first | (apply hK; clear hK) | (clear hK; rename ∀ st, Tri _ _ _ st _ → _ => hK; first | (apply hK; clear hK) | (clear hK; rename ∀ st, Tri _ _ _ st _ → _ => hK; first | (apply hK; clear hK) | (clear hK; rename ∀ st, Tri _ _ _ st _ → _ => hK; first | (apply hK; clear hK) | (clear hK; rename ∀ st, Tri _ _ _ st _ → _ => hK; first | (apply hK; clear hK) | (clear hK; rename ∀ st, Tri _ _ _ st _ → _ => hK; apply hK; clear hK)))))) | skip)
      | (intro β)
      | (rename ∀ st, Tri _ _ _ st _ → _ => hK; apply hK; clear hK))
    refine Tri.ret ⟨_, 0, [], rfl, ?_, ?_, trivial, by simp⟩
    · simp [upd]
      exact Wk.refl _
    · simp [upd]
  rw [e] at hi
  refine DoesB.of_body Try.func36 rfl (by kernel_rfl) rfl rfl (by simp) (fun _ => rfl) fun E => ?_
  have ew : IntKind.i64.wrap ((i0 : Int) + 1) = (i0 : Int) + 1 := wrap_i64 (by omega) (by omega)
  have en : ¬ ((i0 : Int) = -1) := by omega
  repeat (first
    | (refine Tri.seq fun K hK => ?_)
    | (refine Tri.region ?_; simp [upd, en, ew])
    | (refine Tri.draw (by kernel_rfl) (by decide +kernel) ?_; simp [upd, en, ew])
    | (refine Tri.cond_true ?_ ?_; (focus simp [upd, en, ew]; done))
    | (refine Tri.cond_false ?_ ?_; (focus simp [upd, en, ew]; done))
    | (refine Tri.skip ?_; simp only [thenS, blockS])
    | (refine Tri.block_seq ?_)
    | (refine Tri.block_region ?_)
    | (refine Tri.block_cond ?_)
    | (refine CallK.look2 101 100 hi (Wks.refl _) ?_ ?_ (by decide) ?_; (focus (simp [upd]; done)); (focus (simp [upd]; done)); simp [upd, en, ew])
    | (refine Tri.exit ?_; simp [upd, en, ew]; first | (rename ∀ st, Tri _ _ _ st _ → _ => hK; first | (apply hK; clear hK) | (clear hK; rename ∀ st, Tri _ _ _ st _ → _ => hK; first | (apply hK; clear hK) | (clear hK; rename ∀ st, Tri _ _ _ st _ → _ => hK; first | (apply hK; clear hK) | (clear hK; rename ∀ st, Tri _ _ _ st _ → _ => hK; first | (apply hK; clear hK) | (clear hK; rename ∀ st, Tri _ _ _ st _ → _ => hK; first | (apply hK; clear hK) | (clear hK; rename ∀ st, Tri _ _ _ st _ → _ => hK; apply hK; clear hK)))))) | skip)
    | (intro β)
    | (rename ∀ st, Tri _ _ _ st _ → _ => hK; apply hK; clear hK))
  rename ∀ st, Tri _ _ _ st _ → _ => hK
  have fin := fun (st : St) (h : ∃ D i, DS f b bm 3 l.length cs (flD D) st i l.length ∧ DE p l D i l.length) => hK st ?tail
  case tail =>
    obtain ⟨D, i, ⟨hn, s0, s1, x0, x1, s5, s6⟩, hE⟩ := h
    obtain ⟨e1, e2⟩ := hE.end
    have hdl := hE.dl
    have hle := nt_le p l
    have hil : i ≤ l.length := by omega
    have gt := flD_take D i (by omega)
    have gl : i * 3 + (l.length - i) * 3 = l.length * 3 := by rw [← Nat.add_mul]; congr 1; omega
    have gd : List.drop (l.length * 3) (flD D) = [] := List.drop_eq_nil_of_le (by simp [hdl])
    have gi : i + (l.length - i) = l.length := by omega
    repeat (first
      | (refine Tri.seq fun K hK => ?_)
      | (refine Tri.region ?_; simp [upd, hn, s0, s1, x0, x1, s5, s6, hdl, gt, gl, gd, gi, hil])
      | (refine Tri.draw (by kernel_rfl) (by decide +kernel) ?_; simp [upd, hn, s0, s1, x0, x1, s5, s6, hdl, gt, gl, gd, gi, hil])
      | (refine Tri.cond_true ?_ ?_; (focus simp [upd, hn, s0, s1, x0, x1, s5, s6, hdl, gt, gl, gd, gi, hil]; done))
      | (refine Tri.cond_false ?_ ?_; (focus simp [upd, hn, s0, s1, x0, x1, s5, s6, hdl, gt, gl, gd, gi, hil]; done))
      | (refine Tri.skip ?_; simp only [thenS, blockS])
      | (refine Tri.block_seq ?_)
      | (refine Tri.block_region ?_)
      | (refine Tri.block_cond ?_)
      | (refine Tri.exit ?_; simp [upd, hn, s0, s1, x0, x1, s5, s6, hdl, gt, gl, gd, gi, hil]; first | (rename ∀ st, Tri _ _ _ st _ → _ => hK; first | (apply hK; clear hK) | (clear hK; rename ∀ st, Tri _ _ _ st _ → _ => hK; first | (apply hK; clear hK) | (clear hK; rename ∀ st, Tri _ _ _ st _ → _ => hK; first | (apply hK; clear hK) | (clear hK; rename ∀ st, Tri _ _ _ st _ → _ => hK; first | (apply hK; clear hK) | (clear hK; rename ∀ st, Tri _ _ _ st _ → _ => hK; first | (apply hK; clear hK) | (clear hK; rename ∀ st, Tri _ _ _ st _ → _ => hK; apply hK; clear hK)))))) | skip)
      | (intro β)
      | (rename ∀ st, Tri _ _ _ st _ → _ => hK; apply hK; clear hK))
    refine Tri.ret ⟨_, 0, [], rfl, ?_, ?_, trivial, by simp⟩
    · simp [upd, e2]
      exact Wk.refl _
    · simp [upd, x0, x1, e2, e1, gt]
      rw [← e2, e1]
  clear hK
  refine Tri.block (Tri.loop (DInvD f p b bm cs l) (l.length - (i0 + 1)) ?_ ?_)
  · exact ⟨l, i0, i0 + 1, by omega, ⟨rfl, by simp [upd], by simp [upd], by simp [upd], by simp [upd], by simp [upd], by simp [upd]⟩, .start hi0 hp0 hb0⟩
  rintro m st ⟨D, i, j, hm, ⟨hn, s0, s1, x0, x1, s5, s6⟩, hE⟩
  by_cases hj : j < l.length
  case neg =>
    have hjl : j = l.length := by have := hE.jl; omega
    subst hjl
    repeat (first
      | (refine Tri.seq fun K hK => ?_)
      | (refine Tri.region ?_; simp [upd, hn, s0, s1, x0, x1, s5, s6, hj])
      | (refine Tri.draw (by kernel_rfl) (by decide +kernel) ?_; simp [upd, hn, s0, s1, x0, x1, s5, s6, hj])
      | (refine Tri.cond_true ?_ ?_; (focus simp [upd, hn, s0, s1, x0, x1, s5, s6, hj]; done))
      | (refine Tri.cond_false ?_ ?_; (focus simp [upd, hn, s0, s1, x0, x1, s5, s6, hj]; done))
      | (refine Tri.skip ?_; simp only [thenS, blockS])
      | (refine Tri.block_seq ?_)
      | (refine Tri.block_region ?_)
      | (refine Tri.block_cond ?_)
      | (refine Tri.exit ?_; simp [upd, hn, s0, s1, x0, x1, s5, s6, hj]; first | (rename ∀ st, Tri _ _ _ st _ → _ => hK; first | (apply hK; clear hK) | (clear hK; rename ∀ st, Tri _ _ _ st _ → _ => hK; first | (apply hK; clear hK) | (clear hK; rename ∀ st, Tri _ _ _ st _ → _ => hK; first | (apply hK; clear hK) | (clear hK; rename ∀ st, Tri _ _ _ st _ → _ => hK; first | (apply hK; clear hK) | (clear hK; rename ∀ st, Tri _ _ _ st _ → _ => hK; first | (apply hK; clear hK) | (clear hK; rename ∀ st, Tri _ _ _ st _ → _ => hK; apply hK; clear hK)))))) | skip)
      | (intro β)
      | (rename ∀ st, Tri _ _ _ st _ → _ => hK; apply hK; clear hK))
    apply fin
    exact ⟨D, i, ⟨rfl, by simp [upd, s0], by simp [upd, s1], by simp [upd, x0], by simp [upd, x1], by simp [upd, s5], by simp [upd, s6]⟩, hE⟩
  have hij := hE.ij
  have hdl := hE.dl
  have hw : IntKind.i64.wrap ((j : Int) + 1) = (j : Int) + 1 := wrap_i64 (by omega) (by omega)
  have hw2 : IntKind.i64.wrap ((i : Int) + 1) = (i : Int) + 1 := wrap_i64 (by omega) (by omega)
  have gt := flD_get D j (by omega)
  rw [hE.dr j hj (Nat.le_refl _)] at gt
  have gk : j * 3 + 3 ≤ l.length * 3 := by omega
  have gk2 : i * 3 + 3 ≤ l.length * 3 := by omega
  have hil : i < l.length := by omega
  have g := h l[j]
  have gs := flD_set D i (by omega) l[j]
  simp only [delC, List.cons_append, List.nil_append] at gs
  cases hp : p l[j]
  case true =>
    rw [hp] at g
    repeat (first
      | (refine Tri.seq fun K hK => ?_)
      | (refine Tri.region ?_; simp [upd, hn, s0, s1, x0, x1, s5, s6, hj, hdl, hw, gt, gk])
      | (refine Tri.draw (by kernel_rfl) (by decide +kernel) ?_; simp [upd, hn, s0, s1, x0, x1, s5, s6, hj, hdl, hw, gt, gk])
      | (refine Tri.cond_true ?_ ?_; (focus simp [upd, hn, s0, s1, x0, x1, s5, s6, hj, hdl, hw, gt, gk]; done))
      | (refine Tri.cond_false ?_ ?_; (focus simp [upd, hn, s0, s1, x0, x1, s5, s6, hj, hdl, hw, gt, gk]; done))
      | (refine Tri.skip ?_; simp only [thenS, blockS])
      | (refine Tri.block_seq ?_)
      | (refine Tri.block_region ?_)
      | (refine Tri.block_cond ?_)
      | (refine CallK.look 100 g (Wks.refl _) ?_ ?_; (focus (simp [upd, x0]; done)); simp [upd, hn, s0, s1, x0, x1, s5, s6, hj, hdl, hw, gt, gk])
      | (refine Tri.exit ?_; simp [upd, hn, s0, s1, x0, x1, s5, s6, hj, hdl, hw, gt, gk]; first | (rename ∀ st, Tri _ _ _ st _ → _ => hK; first | (apply hK; clear hK) | (clear hK; rename ∀ st, Tri _ _ _ st _ → _ => hK; first | (apply hK; clear hK) | (clear hK; rename ∀ st, Tri _ _ _ st _ → _ => hK; first | (apply hK; clear hK) | (clear hK; rename ∀ st, Tri _ _ _ st _ → _ => hK; first | (apply hK; clear hK) | (clear hK; rename ∀ st, Tri _ _ _ st _ → _ => hK; first | (apply hK; clear hK) | (clear hK; rename ∀ st, Tri _ _ _ st _ → _ => hK; apply hK; clear hK)))))) | skip)
      | (intro β)
      | (rename ∀ st, Tri _ _ _ st _ → _ => hK; apply hK; clear hK))
    exact ⟨m - 1, by omega, D, i, j + 1, by omega, ⟨rfl, by simp [upd, s0], by simp [upd, s1], by simp [upd, x0], by simp [upd, x1], by simp [upd, s5], by simp [upd, s6]⟩, hE.drop hj hp⟩
  rw [hp] at g
  repeat (first
    | (refine Tri.seq fun K hK => ?_)
    | (refine Tri.region ?_; simp [upd, hn, s0, s1, x0, x1, s5, s6, hj, hdl, hw, hw2, gt, gk, gk2, hil, gs])
    | (refine Tri.draw (by kernel_rfl) (by decide +kernel) ?_; simp [upd, hn, s0, s1, x0, x1, s5, s6, hj, hdl, hw, hw2, gt, gk, gk2, hil, gs])
    | (refine Tri.cond_true ?_ ?_; (focus simp [upd, hn, s0, s1, x0, x1, s5, s6, hj, hdl, hw, hw2, gt, gk, gk2, hil, gs]; done))
    | (refine Tri.cond_false ?_ ?_; (focus simp [upd, hn, s0, s1, x0, x1, s5, s6, hj, hdl, hw, hw2, gt, gk, gk2, hil, gs]; done))
    | (refine Tri.skip ?_; simp only [thenS, blockS])
    | (refine Tri.block_seq ?_)
    | (refine Tri.block_region ?_)
    | (refine Tri.block_cond ?_)
    | (refine CallK.look 100 g (Wks.refl _) ?_ ?_; (focus (simp [upd, x0]; done)); simp [upd, hn, s0, s1, x0, x1, s5, s6, hj, hdl, hw, hw2, gt, gk, gk2, hil, gs])
    | (refine Tri.exit ?_; simp [upd, hn, s0, s1, x0, x1, s5, s6, hj, hdl, hw, hw2, gt, gk, gk2, hil, gs]; first | (rename ∀ st, Tri _ _ _ st _ → _ => hK; first | (apply hK; clear hK) | (clear hK; rename ∀ st, Tri _ _ _ st _ → _ => hK; first | (apply hK; clear hK) | (clear hK; rename ∀ st, Tri _ _ _ st _ → _ => hK; first | (apply hK; clear hK) | (clear hK; rename ∀ st, Tri _ _ _ st _ → _ => hK; first | (apply hK; clear hK) | (clear hK; rename ∀ st, Tri _ _ _ st _ → _ => hK; first | (apply hK; clear hK) | (clear hK; rename ∀ st, Tri _ _ _ st _ → _ => hK; apply hK; clear hK)))))) | skip)
    | (intro β)
    | (rename ∀ st, Tri _ _ _ st _ → _ => hK; apply hK; clear hK))
  exact ⟨m - 1, by omega, D.set i l[j], i + 1, j + 1, by omega, ⟨rfl, by simp [upd, s0], by simp [upd, s1], by simp [upd, x0], by simp [upd, gs], by simp [upd, s5], by simp [upd, s6]⟩, hE.keep hj hp⟩
end Go.Proofs.Ytcohdlochpjnjaa
end
section
namespace Go.Proofs.Ytcohdlochpjnjaa
open Go Go.Vm
/-- What a cut leaves. -/
def lateA (s : Int) (l : List Att) : List Att := l.filter fun a => !decide (a.slot < s)
def lateD (s : Int) (l : List Del) : List Del := l.filter fun a => !decide (a.slot < s)
theorem fgA (s : Int) : ∀ (l : List Att), l.Pairwise okA → fA s l ++ lateA s l = l
  | [], _ => rfl
  | a :: l, h => by
    obtain ⟨h1, h2⟩ := List.pairwise_cons.1 h
    by_cases ha : a.slot < s
    · have ih := fgA s l h2
      simp only [fA, lateA, List.filter_cons, ha, decide_true, if_true, Bool.not_true, Bool.false_eq_true, if_false, List.cons_append] at ih ⊢
      rw [ih]
    · have hb : ∀ b ∈ l, ¬ b.slot < s := fun b hb => by have := ltA_slot (h1 b hb).1; omega
      have e1 : fA s l = [] := List.filter_eq_nil_iff.2 fun b hb' => by simpa using hb b hb'
      have e2 : lateA s l = l := List.filter_eq_self.2 fun b hb' => by simpa using hb b hb'
      simp only [fA, lateA, List.filter_cons, ha, decide_false, Bool.false_eq_true, if_false, Bool.not_false, if_true] at e1 e2 ⊢
      rw [e1, e2, List.nil_append]
theorem fgD (s : Int) : ∀ (l : List Del), l.Pairwise ltD → fD s l ++ lateD s l = l
  | [], _ => rfl
  | a :: l, h => by
    obtain ⟨h1, h2⟩ := List.pairwise_cons.1 h
    by_cases ha : a.slot < s
    · have ih := fgD s l h2
      simp only [fD, lateD, List.filter_cons, ha, decide_true, if_true, Bool.not_true, Bool.false_eq_true, if_false, List.cons_append] at ih ⊢
      rw [ih]
    · have hb : ∀ b ∈ l, ¬ b.slot < s := fun b hb => by have := h1 b hb; unfold ltD at this; omega
      have e1 : fD s l = [] := List.filter_eq_nil_iff.2 fun b hb' => by simpa using hb b hb'
      have e2 : lateD s l = l := List.filter_eq_self.2 fun b hb' => by simpa using hb b hb'
      simp only [fD, lateD, List.filter_cons, ha, decide_false, Bool.false_eq_true, if_false, Bool.not_false, if_true] at e1 e2 ⊢
      rw [e1, e2, List.nil_append]
theorem attOk_lt {a : Att} {s t : Int} (h : attOk a s = true) (h1 : a.slot < t) : attOk a t = true := by
  unfold attOk at h ⊢
  simp only [Bool.and_eq_true] at h ⊢
  refine ⟨?_, h.2⟩
  have := h.1
  simp only [belowB, decide_eq_true_eq] at this ⊢
  omega
/-- Whether a record is in order does not hang on what is nil. -/
theorem InOrder.congr {a b : Rec} (h : InOrder a) (h1 : b.slots = a.slots) (h2 : b.atts = a.atts) (h3 : b.dels = a.dels) : InOrder b := by
  obtain ⟨x1, x2, x3, x4, x5, x6⟩ := h
  exact ⟨by rw [h1]; exact x1, by rw [h1]; exact x2, by rw [h2]; exact x3, by rw [h3]; exact x4, by rw [h1, h2]; exact x5, by rw [h1, h3]; exact x6⟩
theorem InOrder.cutOf {r : Rec} (h : InOrder r) {s : Int} (h0 : 0 ≤ s) (h1 : s ≤ r.slots) (an dn : Bool) : InOrder ⟨s, an, fA s r.atts, dn, fD s r.dels⟩ where
  s0 := h0
  s1 := Int.le_trans h1 h.s1
  al := Nat.le_trans (List.length_filter_le ..) h.al
  dl := Nat.le_trans (List.length_filter_le ..) h.dl
  atts := ⟨fun a ha => by
    obtain ⟨g1, g2⟩ := List.mem_filter.1 ha
    exact attOk_lt (h.atts.1 a g1) (by simpa using g2), h.atts.2.sublist List.filter_sublist⟩
  dels := ⟨fun d hd => by
    obtain ⟨g1, g2⟩ := List.mem_filter.1 hd
    obtain ⟨a1, a2, a3, a4, a5, a6⟩ := h.dels.1 d g1
    exact ⟨a1, a2, a3, a4, a5, by simpa using g2⟩, h.dels.2.sublist List.filter_sublist⟩
theorem InOrder.restOf {r : Rec} (h : InOrder r) (s : Int) (an dn : Bool) : InOrder ⟨r.slots, an, lateA s r.atts, dn, lateD s r.dels⟩ where
  s0 := h.s0
  s1 := h.s1
  al := Nat.le_trans (List.length_filter_le ..) h.al
  dl := Nat.le_trans (List.length_filter_le ..) h.dl
  atts := ⟨fun a ha => h.atts.1 a (List.mem_filter.1 ha).1, h.atts.2.sublist List.filter_sublist⟩
  dels := ⟨fun d hd => h.dels.1 d (List.mem_filter.1 hd).1, h.dels.2.sublist List.filter_sublist⟩
theorem join_halves {r : Rec} (h : InOrder r) {s : Int} (h0 : 0 ≤ s) (h1 : s ≤ r.slots) (an dn an' dn' : Bool) :
    join ⟨s, an, fA s r.atts, dn, fD s r.dels⟩ ⟨r.slots, an', lateA s r.atts, dn', lateD s r.dels⟩ = (⟨r.slots, r.atts.isEmpty, r.atts, r.dels.isEmpty, r.dels⟩, 0) := by
  have c1 := (check_iff _).2 (h.cutOf h0 h1 an dn)
  have c2 := (check_iff _).2 (h.restOf s an' dn')
  have ea : anyA s (lateA s r.atts) = false := by
    rw [anyA, List.any_eq_false]
    intro x hx
    have := (List.mem_filter.1 hx).2
    simpa using this
  have ed : anyD s (lateD s r.dels) = false := by
    rw [anyD, List.any_eq_false]
    intro x hx
    have := (List.mem_filter.1 hx).2
    simpa using this
  have he : early ⟨s, an, fA s r.atts, dn, fD s r.dels⟩ ⟨r.slots, an', lateA s r.atts, dn', lateD s r.dels⟩ = false := by
    unfold early
    simp only [ea, ed, Bool.or_false, decide_eq_false_iff_not]
    omega
  unfold join
  rw [if_pos ⟨c1, c2⟩, he]
  simp only [Bool.false_eq_true, if_false, fgA s _ h.atts.2, fgD s _ h.dels.2]
theorem fg_len {α : Type} (p : α → Bool) : ∀ (l : List α), (l.filter p).length + (l.filter fun a => !p a).length = l.length
  | [] => rfl
  | a :: l => by
    have := fg_len p l
    cases h : p a <;> simp [h] <;> omega
theorem dels_halves (s : Int) (l : List Del) : ((fD s l).length : Int) + ((lateD s l).length : Int) = (l.length : Int) := by
  have := fg_len (fun a : Del => decide (a.slot < s)) l
  simp only [fD, lateD]
  omega
theorem cntN_halves (o s : Int) (l : List Att) : (cntN o (fA s l) : Int) + (cntN o (lateA s l) : Int) = (cntN o l : Int) := by
  have := fg_len (fun a : Att => decide (a.slot < s)) (l.filter fun a => a.out == o)
  simp only [cntN, fA, lateA, List.filter_filter] at this ⊢
  have e : ∀ (f g : Att → Bool), (l.filter fun a => f a && g a).length = (l.filter fun a => g a && f a).length := fun f g => by
    congr 1
    exact List.filter_congr fun a _ => Bool.and_comm ..
  have e1 := e (fun a => decide (a.slot < s)) (fun a => a.out == o)
  have e2 := e (fun a => !decide (a.slot < s)) (fun a => a.out == o)
  omega
theorem cntN_le2 (o : Int) (l : List Att) : cntN o l ≤ l.length := List.length_filter_le ..
end Go.Proofs.Ytcohdlochpjnjaa
end
