/- For every two records and every slot: RecordCuts answers true, and its arguments read afterwards as before; no condition. -/
import Derived.Test.YtcohdlochpjnjaaB4
import Derived.Test.YtcohdlochpjnjaaRows
import Derived.ShutString
set_option linter.all false
section
open Go Go.Vm
namespace Go.Proofs.Ytcohdlochpjnjaa
set_option maxRecDepth 100000
set_option maxHeartbeats 4000000
set_option linter.unusedSimpArgs false
attribute [local irreducible] Tri Does DoesB Rounds check sameB
theorem grow0A : Does Try.prog 65 [.c (.sl true 0 none []), .c (.int .i64 0)] (.c (.sl true 0 none [])) := by
  refine Does.of_body Try.func65 rfl (by kernel_rfl) rfl rfl (by simp) ?_
  intro E
  repeat (first
    | (refine Tri.seq fun K hK => ?_)
    | (refine Tri.region ?_; simp [upd])
    | (refine Tri.draw (by kernel_rfl) (by decide +kernel) ?_; simp [upd])
    | (refine Tri.cond_true ?_ ?_; (focus simp [upd]; done))
    | (refine Tri.cond_false ?_ ?_; (focus simp [upd]; done))
    | (refine Tri.skip ?_; simp only [thenS, blockS])
    | (refine Tri.block_seq ?_)
    | (refine Tri.block_region ?_)
    | (refine Tri.block_cond ?_)
    | (refine Tri.exit ?_; simp [upd]; first | (rename ∀ st, Tri _ _ _ st _ → _ => hK; first | (apply hK; clear hK) | (clear hK; rename ∀ st, Tri _ _ _ st _ → _ => hK; first | (apply hK; clear hK) | (clear hK; rename ∀ st, Tri _ _ _ st _ → _ => hK; first | (apply hK; clear hK) | (clear hK; rename ∀ st, Tri _ _ _ st _ → _ => hK; first | (apply hK; clear hK) | (clear hK; rename ∀ st, Tri _ _ _ st _ → _ => hK; first | (apply hK; clear hK) | (clear hK; rename ∀ st, Tri _ _ _ st _ → _ => hK; apply hK; clear hK)))))) | skip)
    | (intro β)
    | (rename ∀ st, Tri _ _ _ st _ → _ => hK; apply hK; clear hK))
  refine Tri.ret ⟨_, rfl, ?_⟩
  simp [upd]
  exact Wk.refl _
theorem grow0D : Does Try.prog 66 [.c (.sl true 0 none []), .c (.int .i64 0)] (.c (.sl true 0 none [])) := by
  refine Does.of_body Try.func66 rfl (by kernel_rfl) rfl rfl (by simp) ?_
  intro E
  repeat (first
    | (refine Tri.seq fun K hK => ?_)
    | (refine Tri.region ?_; simp [upd])
    | (refine Tri.draw (by kernel_rfl) (by decide +kernel) ?_; simp [upd])
    | (refine Tri.cond_true ?_ ?_; (focus simp [upd]; done))
    | (refine Tri.cond_false ?_ ?_; (focus simp [upd]; done))
    | (refine Tri.skip ?_; simp only [thenS, blockS])
    | (refine Tri.block_seq ?_)
    | (refine Tri.block_region ?_)
    | (refine Tri.block_cond ?_)
    | (refine Tri.exit ?_; simp [upd]; first | (rename ∀ st, Tri _ _ _ st _ → _ => hK; first | (apply hK; clear hK) | (clear hK; rename ∀ st, Tri _ _ _ st _ → _ => hK; first | (apply hK; clear hK) | (clear hK; rename ∀ st, Tri _ _ _ st _ → _ => hK; first | (apply hK; clear hK) | (clear hK; rename ∀ st, Tri _ _ _ st _ → _ => hK; first | (apply hK; clear hK) | (clear hK; rename ∀ st, Tri _ _ _ st _ → _ => hK; first | (apply hK; clear hK) | (clear hK; rename ∀ st, Tri _ _ _ st _ → _ => hK; apply hK; clear hK)))))) | skip)
    | (intro β)
    | (rename ∀ st, Tri _ _ _ st _ → _ => hK; apply hK; clear hK))
  refine Tri.ret ⟨_, rfl, ?_⟩
  simp [upd]
  exact Wk.refl _
theorem growA (n : Int) (hn : 0 < n) (hl : n ≤ 2147483648) : DoesB Try.prog 65 [.c (.sl true 0 none []), .c (.int .i64 n)] [] [] (fun β => (.c (.sl false 8 (some (0, β)) []), [], [(0, β, 0, 45, 8)])) := by
  refine DoesB.of_body Try.func65 rfl (by kernel_rfl) rfl rfl (by simp) (fun _ => rfl) fun E => ?_
  have hw : IntKind.i64.wrap n = n := wrap_i64 (by omega) (by omega)
  have h0 : 0 < n := hn
  have h1 : ¬ n < 0 := by omega
  have h2 : n.toNat * 64 ≤ 140737488355328 := by omega
  repeat (first
    | (refine Tri.seq fun K hK => ?_)
    | (refine Tri.region ?_; simp [upd, hw, h0, h1, h2])
    | (refine Tri.draw (by kernel_rfl) (by decide +kernel) ?_; simp [upd, hw, h0, h1, h2])
    | (refine Tri.cond_true ?_ ?_; (focus simp [upd, hw, h0, h1, h2]; done))
    | (refine Tri.cond_false ?_ ?_; (focus simp [upd, hw, h0, h1, h2]; done))
    | (refine Tri.skip ?_; simp only [thenS, blockS])
    | (refine Tri.block_seq ?_)
    | (refine Tri.block_region ?_)
    | (refine Tri.block_cond ?_)
    | (refine Tri.exit ?_; simp [upd, hw, h0, h1, h2]; first | (rename ∀ st, Tri _ _ _ st _ → _ => hK; first | (apply hK; clear hK) | (clear hK; rename ∀ st, Tri _ _ _ st _ → _ => hK; first | (apply hK; clear hK) | (clear hK; rename ∀ st, Tri _ _ _ st _ → _ => hK; first | (apply hK; clear hK) | (clear hK; rename ∀ st, Tri _ _ _ st _ → _ => hK; first | (apply hK; clear hK) | (clear hK; rename ∀ st, Tri _ _ _ st _ → _ => hK; first | (apply hK; clear hK) | (clear hK; rename ∀ st, Tri _ _ _ st _ → _ => hK; apply hK; clear hK)))))) | skip)
    | (intro β)
    | (rename ∀ st, Tri _ _ _ st _ → _ => hK; apply hK; clear hK))
  refine Tri.ret ⟨_, β, [22], rfl, ?_, trivial, ⟨by simp [upd], trivial⟩, by simp⟩
  simp [upd]
  exact Wk.rekey _ _ _ _ _ _
theorem growD (n : Int) (hn : 0 < n) (hl : n ≤ 2147483648) : DoesB Try.prog 66 [.c (.sl true 0 none []), .c (.int .i64 n)] [] [] (fun β => (.c (.sl false 3 (some (0, β)) []), [], [(0, β, 0, 62, 3)])) := by
  refine DoesB.of_body Try.func66 rfl (by kernel_rfl) rfl rfl (by simp) (fun _ => rfl) fun E => ?_
  have hw : IntKind.i64.wrap n = n := wrap_i64 (by omega) (by omega)
  have h0 : 0 < n := hn
  have h1 : ¬ n < 0 := by omega
  have h2 : n.toNat * 24 ≤ 140737488355328 := by omega
  repeat (first
    | (refine Tri.seq fun K hK => ?_)
    | (refine Tri.region ?_; simp [upd, hw, h0, h1, h2])
    | (refine Tri.draw (by kernel_rfl) (by decide +kernel) ?_; simp [upd, hw, h0, h1, h2])
    | (refine Tri.cond_true ?_ ?_; (focus simp [upd, hw, h0, h1, h2]; done))
    | (refine Tri.cond_false ?_ ?_; (focus simp [upd, hw, h0, h1, h2]; done))
    | (refine Tri.skip ?_; simp only [thenS, blockS])
    | (refine Tri.block_seq ?_)
    | (refine Tri.block_region ?_)
    | (refine Tri.block_cond ?_)
    | (refine Tri.exit ?_; simp [upd, hw, h0, h1, h2]; first | (rename ∀ st, Tri _ _ _ st _ → _ => hK; first | (apply hK; clear hK) | (clear hK; rename ∀ st, Tri _ _ _ st _ → _ => hK; first | (apply hK; clear hK) | (clear hK; rename ∀ st, Tri _ _ _ st _ → _ => hK; first | (apply hK; clear hK) | (clear hK; rename ∀ st, Tri _ _ _ st _ → _ => hK; first | (apply hK; clear hK) | (clear hK; rename ∀ st, Tri _ _ _ st _ → _ => hK; first | (apply hK; clear hK) | (clear hK; rename ∀ st, Tri _ _ _ st _ → _ => hK; apply hK; clear hK)))))) | skip)
    | (intro β)
    | (rename ∀ st, Tri _ _ _ st _ → _ => hK; apply hK; clear hK))
  refine Tri.ret ⟨_, β, [22], rfl, ?_, trivial, ⟨by simp [upd], trivial⟩, by simp⟩
  simp [upd]
  exact Wk.rekey _ _ _ _ _ _
theorem concatA (x y : List Att) (n1 n2 : Bool) (hx : x.length ≤ 1073741824) (hy : y.length ≤ 1073741824) :
    Does Try.prog 56 [.c (.sl false 1 none [[.sl n1 8 none (x.map attC)], [.sl n2 8 none (y.map attC)]])] (.c (.sl (x ++ y).isEmpty 8 none ((x ++ y).map attC))) := by
  have w1 : IntKind.i64.wrap (x.length : Int) = (x.length : Int) := wrap_i64 (by omega) (by omega)
  have w2 : IntKind.i64.wrap ((x.length : Int) + (y.length : Int)) = (x.length : Int) + (y.length : Int) := wrap_i64 (by omega) (by omega)
  have p1 : ¬ (x.length : Int) < 0 := by omega
  have p2 : ¬ (x.length : Int) + (y.length : Int) < 0 := by omega
  by_cases h0 : x.length + y.length = 0
  · have hx : x = [] := List.length_eq_zero_iff.1 (by omega)
    have hy : y = [] := List.length_eq_zero_iff.1 (by omega)
    subst hx hy
    refine Does.of_body Try.func56 rfl (by kernel_rfl) rfl rfl (by simp) ?_
    intro E
    repeat (first
      | (refine Tri.seq fun K hK => ?_)
      | (refine Tri.region ?_; simp [upd])
      | (refine Tri.draw (by kernel_rfl) (by decide +kernel) ?_; simp [upd])
      | (refine Tri.cond_true ?_ ?_; (focus simp [upd]; done))
      | (refine Tri.cond_false ?_ ?_; (focus simp [upd]; done))
      | (refine Tri.skip ?_; simp only [thenS, blockS])
      | (refine Tri.block_seq ?_)
      | (refine Tri.block_region ?_)
      | (refine Tri.block_cond ?_)
      | ((with_reducible refine CallK.pure (grow0A) (Wks.refl _) ?_); simp [upd])
      | (refine Tri.block_loop 4 ?_)
      | (refine Rounds.step ?_)
      | (refine Tri.exit ?_; simp [upd]; first | (rename ∀ st, Tri _ _ _ st _ → _ => hK; first | (apply hK; clear hK) | (clear hK; rename ∀ st, Tri _ _ _ st _ → _ => hK; first | (apply hK; clear hK) | (clear hK; rename ∀ st, Tri _ _ _ st _ → _ => hK; first | (apply hK; clear hK) | (clear hK; rename ∀ st, Tri _ _ _ st _ → _ => hK; first | (apply hK; clear hK) | (clear hK; rename ∀ st, Tri _ _ _ st _ → _ => hK; first | (apply hK; clear hK) | (clear hK; rename ∀ st, Tri _ _ _ st _ → _ => hK; apply hK; clear hK)))))) | skip)
      | (intro β)
      | (rename ∀ st, Tri _ _ _ st _ → _ => hK; apply hK; clear hK))
    refine Tri.ret ⟨_, rfl, ?_⟩
    simp [upd]
    exact Wk.nil _ _ _ _
  · have he : (x ++ y).isEmpty = false := by
      cases x with
      | nil => cases y with
        | nil => simp at h0
        | cons => rfl
      | cons => rfl
    have l := growA ((x.length : Int) + (y.length : Int)) (by omega) (by omega)
    have b1 : x.length * 64 ≤ 140737488355328 := by omega
    have b2 : (x.length + y.length) * 64 ≤ 140737488355328 := by omega
    rw [he]
    refine Does.of_body Try.func56 rfl (by kernel_rfl) rfl rfl (by simp) ?_
    intro E
    repeat (first
      | (refine Tri.seq fun K hK => ?_)
      | (refine Tri.region ?_; simp [upd, w1, w2, p1, p2, b1, b2])
      | (refine Tri.draw (by kernel_rfl) (by decide +kernel) ?_; simp [upd, w1, w2, p1, p2, b1, b2])
      | (refine Tri.cond_true ?_ ?_; (focus simp [upd, w1, w2, p1, p2, b1, b2]; done))
      | (refine Tri.cond_false ?_ ?_; (focus simp [upd, w1, w2, p1, p2, b1, b2]; done))
      | (refine Tri.skip ?_; simp only [thenS, blockS])
      | (refine Tri.block_seq ?_)
      | (refine Tri.block_region ?_)
      | (refine Tri.block_cond ?_)
      | ((with_reducible refine CallK.row0 24 l (Wks.refl _) ?_); intro β; simp [upd, w1, w2, p1, p2, b1, b2])
      | (refine Tri.block_loop 4 ?_)
      | (refine Rounds.step ?_)
      | (refine Tri.exit ?_; simp [upd, w1, w2, p1, p2, b1, b2]; first | (rename ∀ st, Tri _ _ _ st _ → _ => hK; first | (apply hK; clear hK) | (clear hK; rename ∀ st, Tri _ _ _ st _ → _ => hK; first | (apply hK; clear hK) | (clear hK; rename ∀ st, Tri _ _ _ st _ → _ => hK; first | (apply hK; clear hK) | (clear hK; rename ∀ st, Tri _ _ _ st _ → _ => hK; first | (apply hK; clear hK) | (clear hK; rename ∀ st, Tri _ _ _ st _ → _ => hK; first | (apply hK; clear hK) | (clear hK; rename ∀ st, Tri _ _ _ st _ → _ => hK; apply hK; clear hK)))))) | skip)
      | (intro β)
      | (rename ∀ st, Tri _ _ _ st _ → _ => hK; apply hK; clear hK))
    refine Tri.ret ⟨_, rfl, ?_⟩
    simp [upd]
    exact Wk.untag _ _ _ _
theorem concatD (x y : List Del) (n1 n2 : Bool) (hx : x.length ≤ 1073741824) (hy : y.length ≤ 1073741824) :
    Does Try.prog 57 [.c (.sl false 1 none [[.sl n1 3 none (x.map delC)], [.sl n2 3 none (y.map delC)]])] (.c (.sl (x ++ y).isEmpty 3 none ((x ++ y).map delC))) := by
  have w1 : IntKind.i64.wrap (x.length : Int) = (x.length : Int) := wrap_i64 (by omega) (by omega)
  have w2 : IntKind.i64.wrap ((x.length : Int) + (y.length : Int)) = (x.length : Int) + (y.length : Int) := wrap_i64 (by omega) (by omega)
  have p1 : ¬ (x.length : Int) < 0 := by omega
  have p2 : ¬ (x.length : Int) + (y.length : Int) < 0 := by omega
  by_cases h0 : x.length + y.length = 0
  · have hx : x = [] := List.length_eq_zero_iff.1 (by omega)
    have hy : y = [] := List.length_eq_zero_iff.1 (by omega)
    subst hx hy
    refine Does.of_body Try.func57 rfl (by kernel_rfl) rfl rfl (by simp) ?_
    intro E
    repeat (first
      | (refine Tri.seq fun K hK => ?_)
      | (refine Tri.region ?_; simp [upd])
      | (refine Tri.draw (by kernel_rfl) (by decide +kernel) ?_; simp [upd])
      | (refine Tri.cond_true ?_ ?_; (focus simp [upd]; done))
      | (refine Tri.cond_false ?_ ?_; (focus simp [upd]; done))
      | (refine Tri.skip ?_; simp only [thenS, blockS])
      | (refine Tri.block_seq ?_)
      | (refine Tri.block_region ?_)
      | (refine Tri.block_cond ?_)
      | ((with_reducible refine CallK.pure (grow0D) (Wks.refl _) ?_); simp [upd])
      | (refine Tri.block_loop 4 ?_)
      | (refine Rounds.step ?_)
      | (refine Tri.exit ?_; simp [upd]; first | (rename ∀ st, Tri _ _ _ st _ → _ => hK; first | (apply hK; clear hK) | (clear hK; rename ∀ st, Tri _ _ _ st _ → _ => hK; first | (apply hK; clear hK) | (clear hK; rename ∀ st, Tri _ _ _ st _ → _ => hK; first | (apply hK; clear hK) | (clear hK; rename ∀ st, Tri _ _ _ st _ → _ => hK; first | (apply hK; clear hK) | (clear hK; rename ∀ st, Tri _ _ _ st _ → _ => hK; first | (apply hK; clear hK) | (clear hK; rename ∀ st, Tri _ _ _ st _ → _ => hK; apply hK; clear hK)))))) | skip)
      | (intro β)
      | (rename ∀ st, Tri _ _ _ st _ → _ => hK; apply hK; clear hK))
    refine Tri.ret ⟨_, rfl, ?_⟩
    simp [upd]
    exact Wk.nil _ _ _ _
  · have he : (x ++ y).isEmpty = false := by
      cases x with
      | nil => cases y with
        | nil => simp at h0
        | cons => rfl
      | cons => rfl
    have l := growD ((x.length : Int) + (y.length : Int)) (by omega) (by omega)
    have b1 : x.length * 24 ≤ 140737488355328 := by omega
    have b2 : (x.length + y.length) * 24 ≤ 140737488355328 := by omega
    rw [he]
    refine Does.of_body Try.func57 rfl (by kernel_rfl) rfl rfl (by simp) ?_
    intro E
    repeat (first
      | (refine Tri.seq fun K hK => ?_)
      | (refine Tri.region ?_; simp [upd, w1, w2, p1, p2, b1, b2])
      | (refine Tri.draw (by kernel_rfl) (by decide +kernel) ?_; simp [upd, w1, w2, p1, p2, b1, b2])
      | (refine Tri.cond_true ?_ ?_; (focus simp [upd, w1, w2, p1, p2, b1, b2]; done))
      | (refine Tri.cond_false ?_ ?_; (focus simp [upd, w1, w2, p1, p2, b1, b2]; done))
      | (refine Tri.skip ?_; simp only [thenS, blockS])
      | (refine Tri.block_seq ?_)
      | (refine Tri.block_region ?_)
      | (refine Tri.block_cond ?_)
      | ((with_reducible refine CallK.row0 24 l (Wks.refl _) ?_); intro β; simp [upd, w1, w2, p1, p2, b1, b2])
      | (refine Tri.block_loop 4 ?_)
      | (refine Rounds.step ?_)
      | (refine Tri.exit ?_; simp [upd, w1, w2, p1, p2, b1, b2]; first | (rename ∀ st, Tri _ _ _ st _ → _ => hK; first | (apply hK; clear hK) | (clear hK; rename ∀ st, Tri _ _ _ st _ → _ => hK; first | (apply hK; clear hK) | (clear hK; rename ∀ st, Tri _ _ _ st _ → _ => hK; first | (apply hK; clear hK) | (clear hK; rename ∀ st, Tri _ _ _ st _ → _ => hK; first | (apply hK; clear hK) | (clear hK; rename ∀ st, Tri _ _ _ st _ → _ => hK; first | (apply hK; clear hK) | (clear hK; rename ∀ st, Tri _ _ _ st _ → _ => hK; apply hK; clear hK)))))) | skip)
      | (intro β)
      | (rename ∀ st, Tri _ _ _ st _ → _ => hK; apply hK; clear hK))
    refine Tri.ret ⟨_, rfl, ?_⟩
    simp [upd]
    exact Wk.untag _ _ _ _
end Go.Proofs.Ytcohdlochpjnjaa
end
section
open Go Go.Vm
namespace Go.Vm
/-- A call that is handed a box, under another key, and leaves it as it is. -/
theorem CallK.look {P : Program} {f : FuncId} {args av : List V} {st : St} {dst : Option Tmp} {K : St → Prop} {key b : Nat} {cs : List C} {r : V} (k : Nat)
    (h : DoesB P f av [(key, b, cs)] [] (fun _ => (r, [(key, b, cs)], []))) (hw : Wks args av) (hb : st.bx k = some (b, cs)) (hK : K (st.put dst r)) : CallK P false f args st dst K := by
  refine CallK.boxed h [k] [] [] (fun _ => r) hw ⟨hb, trivial⟩ trivial (by simp) (by simp) (fun _ => Wk.refl _) (fun _ => rfl) (by simp) fun _ => ?_
  simp only [St.setBxs, St.clrRws, St.setRws]
  rw [upd_same _ _ _ hb]
  exact hK
end Go.Vm
namespace Go.Proofs.Ytcohdlochpjnjaa
set_option maxRecDepth 100000
set_option maxHeartbeats 4000000
set_option linter.unusedSimpArgs false
/-- Where a list first has what is looked for; -1 if nowhere. -/
def idxI {α : Type} (p : α → Bool) (l : List α) : Int := match l.findIdx? p with
  | some i => (i : Nat)
  | none => -1
theorem idxI_at {α : Type} {p : α → Bool} {l : List α} {k : Nat} (hk : k < l.length) (h : p l[k] = true) (hb : ∀ j (_ : j < l.length), j < k → p l[j] = false) : idxI p l = (k : Nat) := by
  have : l.findIdx? p = some k := List.findIdx?_eq_some_iff_getElem.2 ⟨hk, h, fun j hj => by simp [hb j (by omega) hj]⟩
  simp [idxI, this]
theorem idxI_none {α : Type} {p : α → Bool} {l : List α} (hb : ∀ j (_ : j < l.length), p l[j] = false) : idxI p l = -1 := by
  have : l.findIdx? p = none := List.findIdx?_eq_none_iff.2 fun x hx => by
    obtain ⟨j, hj, rfl⟩ := List.getElem_of_mem hx
    exact hb j hj
  simp [idxI, this]
theorem idxI_any {α : Type} (p : α → Bool) (l : List α) : decide (0 ≤ idxI p l) = l.any p := by
  unfold idxI
  cases h : l.findIdx? p with
  | none =>
    have := List.findIdx?_eq_none_iff.1 h
    have e : l.any p = false := by
      rw [List.any_eq_false]
      intro x hx
      simp [this x hx]
    simp [e]
  | some i =>
    obtain ⟨h1, h2, _⟩ := List.findIdx?_eq_some_iff_getElem.1 h
    have e : l.any p = true := List.any_eq_true.2 ⟨_, List.getElem_mem h1, h2⟩
    simp [e]
attribute [local irreducible] Tri Does DoesB Rounds check sameB idxI
theorem cloA (x : Att) (b : Nat) (s : Int) (G H : C) : DoesB Try.prog 53 [.agg (attC x), .c (.box 100 b 0)] [(100, b, [.int .i64 s, G, H])] [] (fun _ => (.c (.bool (decide (x.slot < s))), [(100, b, [.int .i64 s, G, H])], [])) := by
  refine DoesB.of_body Try.func53 rfl (by kernel_rfl) rfl rfl (by simp) (fun _ => rfl) fun E => ?_
  repeat (first
    | (refine Tri.seq fun K hK => ?_)
    | (refine Tri.region ?_; simp [upd])
    | (refine Tri.draw (by kernel_rfl) (by decide +kernel) ?_; simp [upd])
    | (refine Tri.cond_true ?_ ?_; (focus simp [upd]; done))
    | (refine Tri.cond_false ?_ ?_; (focus simp [upd]; done))
    | (refine Tri.skip ?_; simp only [thenS, blockS])
    | (refine Tri.block_seq ?_)
    | (refine Tri.block_region ?_)
    | (refine Tri.block_cond ?_)
    | (refine Tri.exit ?_; simp [upd]; first | (rename ∀ st, Tri _ _ _ st _ → _ => hK; first | (apply hK; clear hK) | (clear hK; rename ∀ st, Tri _ _ _ st _ → _ => hK; first | (apply hK; clear hK) | (clear hK; rename ∀ st, Tri _ _ _ st _ → _ => hK; first | (apply hK; clear hK) | (clear hK; rename ∀ st, Tri _ _ _ st _ → _ => hK; first | (apply hK; clear hK) | (clear hK; rename ∀ st, Tri _ _ _ st _ → _ => hK; first | (apply hK; clear hK) | (clear hK; rename ∀ st, Tri _ _ _ st _ → _ => hK; apply hK; clear hK)))))) | skip)
    | (intro β)
    | (rename ∀ st, Tri _ _ _ st _ → _ => hK; apply hK; clear hK))
  refine Tri.ret ⟨_, 0, [], rfl, ?_, ?_, trivial, by simp⟩
  · simp [upd]
    exact Wk.refl _
  · simp [upd]
theorem cloD (x : Del) (b : Nat) (s : Int) (G H : C) : DoesB Try.prog 55 [.agg (delC x), .c (.box 100 b 0)] [(100, b, [.int .i64 s, G, H])] [] (fun _ => (.c (.bool (decide (x.slot < s))), [(100, b, [.int .i64 s, G, H])], [])) := by
  refine DoesB.of_body Try.func55 rfl (by kernel_rfl) rfl rfl (by simp) (fun _ => rfl) fun E => ?_
  repeat (first
    | (refine Tri.seq fun K hK => ?_)
    | (refine Tri.region ?_; simp [upd])
    | (refine Tri.draw (by kernel_rfl) (by decide +kernel) ?_; simp [upd])
    | (refine Tri.cond_true ?_ ?_; (focus simp [upd]; done))
    | (refine Tri.cond_false ?_ ?_; (focus simp [upd]; done))
    | (refine Tri.skip ?_; simp only [thenS, blockS])
    | (refine Tri.block_seq ?_)
    | (refine Tri.block_region ?_)
    | (refine Tri.block_cond ?_)
    | (refine Tri.exit ?_; simp [upd]; first | (rename ∀ st, Tri _ _ _ st _ → _ => hK; first | (apply hK; clear hK) | (clear hK; rename ∀ st, Tri _ _ _ st _ → _ => hK; first | (apply hK; clear hK) | (clear hK; rename ∀ st, Tri _ _ _ st _ → _ => hK; first | (apply hK; clear hK) | (clear hK; rename ∀ st, Tri _ _ _ st _ → _ => hK; first | (apply hK; clear hK) | (clear hK; rename ∀ st, Tri _ _ _ st _ → _ => hK; first | (apply hK; clear hK) | (clear hK; rename ∀ st, Tri _ _ _ st _ → _ => hK; apply hK; clear hK)))))) | skip)
    | (intro β)
    | (rename ∀ st, Tri _ _ _ st _ → _ => hK; apply hK; clear hK))
  refine Tri.ret ⟨_, 0, [], rfl, ?_, ?_, trivial, by simp⟩
  · simp [upd]
    exact Wk.refl _
  · simp [upd]
theorem indexA (f : FuncId) (p : Att → Bool) (b : Nat) (cs : List C) (h : ∀ x, DoesB Try.prog f [.agg (attC x), .c (.box 100 b 0)] [(100, b, cs)] [] (fun _ => (.c (.bool (p x)), [(100, b, cs)], []))) (l : List Att) (nl : Bool) (hl : l.length ≤ 1073741824) :
    DoesB Try.prog 58 [.c (.sl nl 8 none (l.map attC)), .c (.fn f [.box 100 b 0])] [(100, b, cs)] [] (fun _ => (.c (.int .i64 (idxI p l)), [(100, b, cs)], [])) := by
  refine DoesB.of_body Try.func58 rfl (by kernel_rfl) rfl rfl (by simp) (fun _ => rfl) fun E => ?_
  repeat (first
    | (refine Tri.seq fun K hK => ?_)
    | (refine Tri.region ?_; simp [upd])
    | (refine Tri.draw (by kernel_rfl) (by decide +kernel) ?_; simp [upd])
    | (refine Tri.cond_true ?_ ?_; (focus simp [upd]; done))
    | (refine Tri.cond_false ?_ ?_; (focus simp [upd]; done))
    | (refine Tri.skip ?_; simp only [thenS, blockS])
    | (refine Tri.block_seq ?_)
    | (refine Tri.block_region ?_)
    | (refine Tri.block_cond ?_)
    | (refine Tri.exit ?_; simp [upd]; first | (rename ∀ st, Tri _ _ _ st _ → _ => hK; first | (apply hK; clear hK) | (clear hK; rename ∀ st, Tri _ _ _ st _ → _ => hK; first | (apply hK; clear hK) | (clear hK; rename ∀ st, Tri _ _ _ st _ → _ => hK; first | (apply hK; clear hK) | (clear hK; rename ∀ st, Tri _ _ _ st _ → _ => hK; first | (apply hK; clear hK) | (clear hK; rename ∀ st, Tri _ _ _ st _ → _ => hK; first | (apply hK; clear hK) | (clear hK; rename ∀ st, Tri _ _ _ st _ → _ => hK; apply hK; clear hK)))))) | skip)
    | (intro β)
    | (rename ∀ st, Tri _ _ _ st _ → _ => hK; apply hK; clear hK))
  refine Tri.range 8 7 9 18 19 rfl rfl l.length (fun k st => st.sl 0 = .c (.sl nl 8 none (l.map attC)) ∧ st.sl 1 = .c (.fn f [.box 100 b 0]) ∧ st.bx 100 = some (b, cs) ∧ ∀ j (_ : j < l.length), j < k → p l[j] = false) (by simp) (by omega) ?_ rfl (by simp [upd]) (by simp [upd]) ?_ ?_ ?_
  · rintro k st t v ht ⟨a0, a1, a2, hb⟩
    rcases ht with rfl | rfl | rfl <;> exact ⟨by simpa [upd] using a0, by simpa [upd] using a1, by simpa using a2, hb⟩
  · exact ⟨by simp [upd], by simp [upd], by simp, fun j _ h => by omega⟩
  · rintro k st hk ⟨a0, a1, a2, hb⟩ hn h8 h7
    have g := h l[k]
    cases hp : p l[k]
    case true =>
      rw [idxI_at hk hp hb]
      rw [hp] at g
      repeat (first
        | (refine Tri.seq fun K hK => ?_)
        | (refine Tri.region ?_; simp [upd, hn, a0, a1, a2, h8, h7, hk])
        | (refine Tri.draw (by kernel_rfl) (by decide +kernel) ?_; simp [upd, hn, a0, a1, a2, h8, h7, hk])
        | (refine Tri.cond_true ?_ ?_; (focus simp [upd, hn, a0, a1, a2, h8, h7, hk]; done))
        | (refine Tri.cond_false ?_ ?_; (focus simp [upd, hn, a0, a1, a2, h8, h7, hk]; done))
        | (refine Tri.skip ?_; simp only [thenS, blockS])
        | (refine Tri.block_seq ?_)
        | (refine Tri.block_region ?_)
        | (refine Tri.block_cond ?_)
        | (refine CallK.look 100 g (Wks.refl _) ?_ ?_; (focus (simp [upd, a2]; done)); simp [upd, hn, a0, a1, a2, h8, h7, hk])
        | (refine Tri.exit ?_; simp [upd, hn, a0, a1, a2, h8, h7, hk]; first | (rename ∀ st, Tri _ _ _ st _ → _ => hK; first | (apply hK; clear hK) | (clear hK; rename ∀ st, Tri _ _ _ st _ → _ => hK; first | (apply hK; clear hK) | (clear hK; rename ∀ st, Tri _ _ _ st _ → _ => hK; first | (apply hK; clear hK) | (clear hK; rename ∀ st, Tri _ _ _ st _ → _ => hK; first | (apply hK; clear hK) | (clear hK; rename ∀ st, Tri _ _ _ st _ → _ => hK; first | (apply hK; clear hK) | (clear hK; rename ∀ st, Tri _ _ _ st _ → _ => hK; apply hK; clear hK)))))) | skip)
        | (intro β)
        | (rename ∀ st, Tri _ _ _ st _ → _ => hK; apply hK; clear hK))
      refine Tri.ret ⟨_, 0, [], rfl, ?_, ?_, trivial, by simp⟩
      · simp [upd]
        exact Wk.refl _
      · simp [upd, a2]
    rw [hp] at g
    repeat (first
      | (refine Tri.seq fun K hK => ?_)
      | (refine Tri.region ?_; simp [upd, hn, a0, a1, a2, h8, h7, hk])
      | (refine Tri.draw (by kernel_rfl) (by decide +kernel) ?_; simp [upd, hn, a0, a1, a2, h8, h7, hk])
      | (refine Tri.cond_true ?_ ?_; (focus simp [upd, hn, a0, a1, a2, h8, h7, hk]; done))
      | (refine Tri.cond_false ?_ ?_; (focus simp [upd, hn, a0, a1, a2, h8, h7, hk]; done))
      | (refine Tri.skip ?_; simp only [thenS, blockS])
      | (refine Tri.block_seq ?_)
      | (refine Tri.block_region ?_)
      | (refine Tri.block_cond ?_)
      | (refine CallK.look 100 g (Wks.refl _) ?_ ?_; (focus (simp [upd, a2]; done)); simp [upd, hn, a0, a1, a2, h8, h7, hk])
      | (refine Tri.exit ?_; simp [upd, hn, a0, a1, a2, h8, h7, hk]; first | (rename ∀ st, Tri _ _ _ st _ → _ => hK; first | (apply hK; clear hK) | (clear hK; rename ∀ st, Tri _ _ _ st _ → _ => hK; first | (apply hK; clear hK) | (clear hK; rename ∀ st, Tri _ _ _ st _ → _ => hK; first | (apply hK; clear hK) | (clear hK; rename ∀ st, Tri _ _ _ st _ → _ => hK; first | (apply hK; clear hK) | (clear hK; rename ∀ st, Tri _ _ _ st _ → _ => hK; first | (apply hK; clear hK) | (clear hK; rename ∀ st, Tri _ _ _ st _ → _ => hK; apply hK; clear hK)))))) | skip)
      | (intro β)
      | (rename ∀ st, Tri _ _ _ st _ → _ => hK; apply hK; clear hK))
    try simp [upd, h8, h7, a0, a1, a2]
    intro j hj hjk
    rcases Nat.lt_succ_iff_lt_or_eq.1 hjk with h' | rfl
    · exact hb j hj h'
    · exact hp
  · rintro st ⟨a0, a1, a2, hb⟩ hn
    rename ∀ st, Tri _ _ _ st _ → _ => hK
    apply hK
    rw [idxI_none (p := p) (l := l) fun j hj => hb j hj hj]
    repeat (first
      | (refine Tri.seq fun K hK => ?_)
      | (refine Tri.region ?_; simp [upd, hn, a2])
      | (refine Tri.draw (by kernel_rfl) (by decide +kernel) ?_; simp [upd, hn, a2])
      | (refine Tri.cond_true ?_ ?_; (focus simp [upd, hn, a2]; done))
      | (refine Tri.cond_false ?_ ?_; (focus simp [upd, hn, a2]; done))
      | (refine Tri.skip ?_; simp only [thenS, blockS])
      | (refine Tri.block_seq ?_)
      | (refine Tri.block_region ?_)
      | (refine Tri.block_cond ?_)
      | (refine Tri.exit ?_; simp [upd, hn, a2]; first | (rename ∀ st, Tri _ _ _ st _ → _ => hK; first | (apply hK; clear hK) | (clear hK; rename ∀ st, Tri _ _ _ st _ → _ => hK; first | (apply hK; clear hK) | (clear hK; rename ∀ st, Tri _ _ _ st _ → _ => hK; first | (apply hK; clear hK) | (clear hK; rename ∀ st, Tri _ _ _ st _ → _ => hK; first | (apply hK; clear hK) | (clear hK; rename ∀ st, Tri _ _ _ st _ → _ => hK; first | (apply hK; clear hK) | (clear hK; rename ∀ st, Tri _ _ _ st _ → _ => hK; apply hK; clear hK)))))) | skip)
      | (intro β)
      | (rename ∀ st, Tri _ _ _ st _ → _ => hK; apply hK; clear hK))
    refine Tri.ret ⟨_, 0, [], rfl, ?_, ?_, trivial, by simp⟩
    · simp [upd]
      exact Wk.refl _
    · simp [upd, a2]
theorem indexD (f : FuncId) (p : Del → Bool) (b : Nat) (cs : List C) (h : ∀ x, DoesB Try.prog f [.agg (delC x), .c (.box 100 b 0)] [(100, b, cs)] [] (fun _ => (.c (.bool (p x)), [(100, b, cs)], []))) (l : List Del) (nl : Bool) (hl : l.length ≤ 1073741824) :
    DoesB Try.prog 59 [.c (.sl nl 3 none (l.map delC)), .c (.fn f [.box 100 b 0])] [(100, b, cs)] [] (fun _ => (.c (.int .i64 (idxI p l)), [(100, b, cs)], [])) := by
  refine DoesB.of_body Try.func59 rfl (by kernel_rfl) rfl rfl (by simp) (fun _ => rfl) fun E => ?_
  repeat (first
    | (refine Tri.seq fun K hK => ?_)
    | (refine Tri.region ?_; simp [upd])
    | (refine Tri.draw (by kernel_rfl) (by decide +kernel) ?_; simp [upd])
    | (refine Tri.cond_true ?_ ?_; (focus simp [upd]; done))
    | (refine Tri.cond_false ?_ ?_; (focus simp [upd]; done))
    | (refine Tri.skip ?_; simp only [thenS, blockS])
    | (refine Tri.block_seq ?_)
    | (refine Tri.block_region ?_)
    | (refine Tri.block_cond ?_)
    | (refine Tri.exit ?_; simp [upd]; first | (rename ∀ st, Tri _ _ _ st _ → _ => hK; first | (apply hK; clear hK) | (clear hK; rename ∀ st, Tri _ _ _ st _ → _ => hK; first | (apply hK; clear hK) | (clear hK; rename ∀ st, Tri _ _ _ st _ → _ => hK; first | (apply hK; clear hK) | (clear hK; rename ∀ st, Tri _ _ _ st _ → _ => hK; first | (apply hK; clear hK) | (clear hK; rename ∀ st, Tri _ _ _ st _ → _ => hK; first | (apply hK; clear hK) | (clear hK; rename ∀ st, Tri _ _ _ st _ → _ => hK; apply hK; clear hK)))))) | skip)
    | (intro β)
    | (rename ∀ st, Tri _ _ _ st _ → _ => hK; apply hK; clear hK))
  refine Tri.range 8 7 9 18 19 rfl rfl l.length (fun k st => st.sl 0 = .c (.sl nl 3 none (l.map delC)) ∧ st.sl 1 = .c (.fn f [.box 100 b 0]) ∧ st.bx 100 = some (b, cs) ∧ ∀ j (_ : j < l.length), j < k → p l[j] = false) (by simp) (by omega) ?_ rfl (by simp [upd]) (by simp [upd]) ?_ ?_ ?_
  · rintro k st t v ht ⟨a0, a1, a2, hb⟩
    rcases ht with rfl | rfl | rfl <;> exact ⟨by simpa [upd] using a0, by simpa [upd] using a1, by simpa using a2, hb⟩
  · exact ⟨by simp [upd], by simp [upd], by simp, fun j _ h => by omega⟩
  · rintro k st hk ⟨a0, a1, a2, hb⟩ hn h8 h7
    have g := h l[k]
    cases hp : p l[k]
    case true =>
      rw [idxI_at hk hp hb]
      rw [hp] at g
      repeat (first
        | (refine Tri.seq fun K hK => ?_)
        | (refine Tri.region ?_; simp [upd, hn, a0, a1, a2, h8, h7, hk])
        | (refine Tri.draw (by kernel_rfl) (by decide +kernel) ?_; simp [upd, hn, a0, a1, a2, h8, h7, hk])
        | (refine Tri.cond_true ?_ ?_; (focus simp [upd, hn, a0, a1, a2, h8, h7, hk]; done))
        | (refine Tri.cond_false ?_ ?_; (focus simp [upd, hn, a0, a1, a2, h8, h7, hk]; done))
        | (refine Tri.skip ?_; simp only [thenS, blockS])
        | (refine Tri.block_seq ?_)
        | (refine Tri.block_region ?_)
        | (refine Tri.block_cond ?_)
        | (refine CallK.look 100 g (Wks.refl _) ?_ ?_; (focus (simp [upd, a2]; done)); simp [upd, hn, a0, a1, a2, h8, h7, hk])
        | (refine Tri.exit ?_; simp [upd, hn, a0, a1, a2, h8, h7, hk]; first | (rename ∀ st, Tri _ _ _ st _ → _ => hK; first | (apply hK; clear hK) | (clear hK; rename ∀ st, Tri _ _ _ st _ → _ => hK; first | (apply hK; clear hK) | (clear hK; rename ∀ st, Tri _ _ _ st _ → _ => hK; first | (apply hK; clear hK) | (clear hK; rename ∀ st, Tri _ _ _ st _ → _ => hK; first | (apply hK; clear hK) | (clear hK; rename ∀ st, Tri _ _ _ st _ → _ => hK; first | (apply hK; clear hK) | (clear hK; rename ∀ st, Tri _ _ _ st _ → _ => hK; apply hK; clear hK)))))) | skip)
        | (intro β)
        | (rename ∀ st, Tri _ _ _ st _ → _ => hK; apply hK; clear hK))
      refine Tri.ret ⟨_, 0, [], rfl, ?_, ?_, trivial, by simp⟩
      · simp [upd]
        exact Wk.refl _
      · simp [upd, a2]
    rw [hp] at g
    repeat (first
      | (refine Tri.seq fun K hK => ?_)
      | (refine Tri.region ?_; simp [upd, hn, a0, a1, a2, h8, h7, hk])
      | (refine Tri.draw (by kernel_rfl) (by decide +kernel) ?_; simp [upd, hn, a0, a1, a2, h8, h7, hk])
      | (refine Tri.cond_true ?_ ?_; (focus simp [upd, hn, a0, a1, a2, h8, h7, hk]; done))
      | (refine Tri.cond_false ?_ ?_; (focus simp [upd, hn, a0, a1, a2, h8, h7, hk]; done))
      | (refine Tri.skip ?_; simp only [thenS, blockS])
      | (refine Tri.block_seq ?_)
      | (refine Tri.block_region ?_)
      | (refine Tri.block_cond ?_)
      | (refine CallK.look 100 g (Wks.refl _) ?_ ?_; (focus (simp [upd, a2]; done)); simp [upd, hn, a0, a1, a2, h8, h7, hk])
      | (refine Tri.exit ?_; simp [upd, hn, a0, a1, a2, h8, h7, hk]; first | (rename ∀ st, Tri _ _ _ st _ → _ => hK; first | (apply hK; clear hK) | (clear hK; rename ∀ st, Tri _ _ _ st _ → _ => hK; first | (apply hK; clear hK) | (clear hK; rename ∀ st, Tri _ _ _ st _ → _ => hK; first | (apply hK; clear hK) | (clear hK; rename ∀ st, Tri _ _ _ st _ → _ => hK; first | (apply hK; clear hK) | (clear hK; rename ∀ st, Tri _ _ _ st _ → _ => hK; first | (apply hK; clear hK) | (clear hK; rename ∀ st, Tri _ _ _ st _ → _ => hK; apply hK; clear hK)))))) | skip)
      | (intro β)
      | (rename ∀ st, Tri _ _ _ st _ → _ => hK; apply hK; clear hK))
    try simp [upd, h8, h7, a0, a1, a2]
    intro j hj hjk
    rcases Nat.lt_succ_iff_lt_or_eq.1 hjk with h' | rfl
    · exact hb j hj h'
    · exact hp
  · rintro st ⟨a0, a1, a2, hb⟩ hn
    rename ∀ st, Tri _ _ _ st _ → _ => hK
    apply hK
    rw [idxI_none (p := p) (l := l) fun j hj => hb j hj hj]
    repeat (first
      | (refine Tri.seq fun K hK => ?_)
      | (refine Tri.region ?_; simp [upd, hn, a2])
      | (refine Tri.draw (by kernel_rfl) (by decide +kernel) ?_; simp [upd, hn, a2])
      | (refine Tri.cond_true ?_ ?_; (focus simp [upd, hn, a2]; done))
      | (refine Tri.cond_false ?_ ?_; (focus simp [upd, hn, a2]; done))
      | (refine Tri.skip ?_; simp only [thenS, blockS])
      | (refine Tri.block_seq ?_)
      | (refine Tri.block_region ?_)
      | (refine Tri.block_cond ?_)
      | (refine Tri.exit ?_; simp [upd, hn, a2]; first | (rename ∀ st, Tri _ _ _ st _ → _ => hK; first | (apply hK; clear hK) | (clear hK; rename ∀ st, Tri _ _ _ st _ → _ => hK; first | (apply hK; clear hK) | (clear hK; rename ∀ st, Tri _ _ _ st _ → _ => hK; first | (apply hK; clear hK) | (clear hK; rename ∀ st, Tri _ _ _ st _ → _ => hK; first | (apply hK; clear hK) | (clear hK; rename ∀ st, Tri _ _ _ st _ → _ => hK; first | (apply hK; clear hK) | (clear hK; rename ∀ st, Tri _ _ _ st _ → _ => hK; apply hK; clear hK)))))) | skip)
      | (intro β)
      | (rename ∀ st, Tri _ _ _ st _ → _ => hK; apply hK; clear hK))
    refine Tri.ret ⟨_, 0, [], rfl, ?_, ?_, trivial, by simp⟩
    · simp [upd]
      exact Wk.refl _
    · simp [upd, a2]
theorem containsA (f : FuncId) (p : Att → Bool) (b : Nat) (cs : List C) (h : ∀ x, DoesB Try.prog f [.agg (attC x), .c (.box 100 b 0)] [(100, b, cs)] [] (fun _ => (.c (.bool (p x)), [(100, b, cs)], []))) (l : List Att) (nl : Bool) (hl : l.length ≤ 1073741824) :
    DoesB Try.prog 52 [.c (.sl nl 8 none (l.map attC)), .c (.fn f [.box 100 b 0])] [(100, b, cs)] [] (fun _ => (.c (.bool (l.any p)), [(100, b, cs)], [])) := by
  have g := indexA f p b cs h l nl hl
  rw [← idxI_any]
  refine DoesB.of_body Try.func52 rfl (by kernel_rfl) rfl rfl (by simp) (fun _ => rfl) fun E => ?_
  repeat (first
    | (refine Tri.seq fun K hK => ?_)
    | (refine Tri.region ?_; simp [upd])
    | (refine Tri.draw (by kernel_rfl) (by decide +kernel) ?_; simp [upd])
    | (refine Tri.cond_true ?_ ?_; (focus simp [upd]; done))
    | (refine Tri.cond_false ?_ ?_; (focus simp [upd]; done))
    | (refine Tri.skip ?_; simp only [thenS, blockS])
    | (refine Tri.block_seq ?_)
    | (refine Tri.block_region ?_)
    | (refine Tri.block_cond ?_)
    | (refine CallK.look 100 g (Wks.refl _) ?_ ?_; (focus (simp [upd]; done)); simp [upd])
    | (refine Tri.exit ?_; simp [upd]; first | (rename ∀ st, Tri _ _ _ st _ → _ => hK; first | (apply hK; clear hK) | (clear hK; rename ∀ st, Tri _ _ _ st _ → _ => hK; first | (apply hK; clear hK) | (clear hK; rename ∀ st, Tri _ _ _ st _ → _ => hK; first | (apply hK; clear hK) | (clear hK; rename ∀ st, Tri _ _ _ st _ → _ => hK; first | (apply hK; clear hK) | (clear hK; rename ∀ st, Tri _ _ _ st _ → _ => hK; first | (apply hK; clear hK) | (clear hK; rename ∀ st, Tri _ _ _ st _ → _ => hK; apply hK; clear hK)))))) | skip)
    | (intro β)
    | (rename ∀ st, Tri _ _ _ st _ → _ => hK; apply hK; clear hK))
  refine Tri.ret ⟨_, 0, [], rfl, ?_, ?_, trivial, by simp⟩
  · simp [upd]
    exact Wk.refl _
  · simp [upd]
theorem containsD (f : FuncId) (p : Del → Bool) (b : Nat) (cs : List C) (h : ∀ x, DoesB Try.prog f [.agg (delC x), .c (.box 100 b 0)] [(100, b, cs)] [] (fun _ => (.c (.bool (p x)), [(100, b, cs)], []))) (l : List Del) (nl : Bool) (hl : l.length ≤ 1073741824) :
    DoesB Try.prog 54 [.c (.sl nl 3 none (l.map delC)), .c (.fn f [.box 100 b 0])] [(100, b, cs)] [] (fun _ => (.c (.bool (l.any p)), [(100, b, cs)], [])) := by
  have g := indexD f p b cs h l nl hl
  rw [← idxI_any]
  refine DoesB.of_body Try.func54 rfl (by kernel_rfl) rfl rfl (by simp) (fun _ => rfl) fun E => ?_
  repeat (first
    | (refine Tri.seq fun K hK => ?_)
    | (refine Tri.region ?_; simp [upd])
    | (refine Tri.draw (by kernel_rfl) (by decide +kernel) ?_; simp [upd])
    | (refine Tri.cond_true ?_ ?_; (focus simp [upd]; done))
    | (refine Tri.cond_false ?_ ?_; (focus simp [upd]; done))
    | (refine Tri.skip ?_; simp only [thenS, blockS])
    | (refine Tri.block_seq ?_)
    | (refine Tri.block_region ?_)
    | (refine Tri.block_cond ?_)
    | (refine CallK.look 100 g (Wks.refl _) ?_ ?_; (focus (simp [upd]; done)); simp [upd])
    | (refine Tri.exit ?_; simp [upd]; first | (rename ∀ st, Tri _ _ _ st _ → _ => hK; first | (apply hK; clear hK) | (clear hK; rename ∀ st, Tri _ _ _ st _ → _ => hK; first | (apply hK; clear hK) | (clear hK; rename ∀ st, Tri _ _ _ st _ → _ => hK; first | (apply hK; clear hK) | (clear hK; rename ∀ st, Tri _ _ _ st _ → _ => hK; first | (apply hK; clear hK) | (clear hK; rename ∀ st, Tri _ _ _ st _ → _ => hK; first | (apply hK; clear hK) | (clear hK; rename ∀ st, Tri _ _ _ st _ → _ => hK; apply hK; clear hK)))))) | skip)
    | (intro β)
    | (rename ∀ st, Tri _ _ _ st _ → _ => hK; apply hK; clear hK))
  refine Tri.ret ⟨_, 0, [], rfl, ?_, ?_, trivial, by simp⟩
  · simp [upd]
    exact Wk.refl _
  · simp [upd]
end Go.Proofs.Ytcohdlochpjnjaa
end
section
open Go Go.Vm
namespace Go.Proofs.Ytcohdlochpjnjaa
set_option maxRecDepth 100000
set_option maxHeartbeats 4000000
set_option linter.unusedSimpArgs false
theorem orI_cmp_ne {x y : Int} (l : List Int) (h : (x == y) = false) : decide (orI (cmpI x y :: l) < 0) = decide (x < y) := by
  have := orI_cmp x y l
  simp only [beq_eq_false_iff_ne, ne_eq] at h
  rw [decide_eq_decide, this]
  omega
theorem orI_cmp_eq {x y : Int} (l : List Int) (h : (x == y) = true) : orI (cmpI x y :: l) = orI l := by
  simp only [beq_iff_eq] at h
  rw [orI, if_pos ((cmpI_eq x y).2 h)]
attribute [local irreducible] Tri Does DoesB Rounds check sameB
def inB (n lo hi : Int) : Bool := decide (lo ≤ n) && decide (n ≤ hi)
theorem in_does (n lo hi : Int) : Does Try.prog 48 [.c (.int .i64 n), .c (.int .i64 lo), .c (.int .i64 hi)] (.c (.bool (inB n lo hi))) := by
  refine Does.of_body Try.func48 rfl (by kernel_rfl) rfl rfl (by simp) ?_
  intro E
  unfold inB
  by_cases h1 : lo ≤ n
  · repeat (first
      | (refine Tri.seq fun K hK => ?_)
      | (refine Tri.region ?_; simp [upd, h1])
      | (refine Tri.draw (by kernel_rfl) (by decide +kernel) ?_; simp [upd, h1])
      | (refine Tri.cond_true ?_ ?_; (focus simp [upd, h1]; done))
      | (refine Tri.cond_false ?_ ?_; (focus simp [upd, h1]; done))
      | (refine Tri.skip ?_; simp only [thenS, blockS])
      | (refine Tri.block_seq ?_)
      | (refine Tri.block_region ?_)
      | (refine Tri.block_cond ?_)
      | (refine Tri.exit ?_; simp [upd, h1]; first | (rename ∀ st, Tri _ _ _ st _ → _ => hK; first | (apply hK; clear hK) | (clear hK; rename ∀ st, Tri _ _ _ st _ → _ => hK; first | (apply hK; clear hK) | (clear hK; rename ∀ st, Tri _ _ _ st _ → _ => hK; first | (apply hK; clear hK) | (clear hK; rename ∀ st, Tri _ _ _ st _ → _ => hK; first | (apply hK; clear hK) | (clear hK; rename ∀ st, Tri _ _ _ st _ → _ => hK; first | (apply hK; clear hK) | (clear hK; rename ∀ st, Tri _ _ _ st _ → _ => hK; apply hK; clear hK)))))) | skip)
      | (intro β)
      | (rename ∀ st, Tri _ _ _ st _ → _ => hK; apply hK; clear hK))
    refine Tri.ret ⟨_, rfl, ?_⟩
    simp [upd, h1]
    exact Wk.refl _
  · repeat (first
      | (refine Tri.seq fun K hK => ?_)
      | (refine Tri.region ?_; simp [upd, h1])
      | (refine Tri.draw (by kernel_rfl) (by decide +kernel) ?_; simp [upd, h1])
      | (refine Tri.cond_true ?_ ?_; (focus simp [upd, h1]; done))
      | (refine Tri.cond_false ?_ ?_; (focus simp [upd, h1]; done))
      | (refine Tri.skip ?_; simp only [thenS, blockS])
      | (refine Tri.block_seq ?_)
      | (refine Tri.block_region ?_)
      | (refine Tri.block_cond ?_)
      | (refine Tri.exit ?_; simp [upd, h1]; first | (rename ∀ st, Tri _ _ _ st _ → _ => hK; first | (apply hK; clear hK) | (clear hK; rename ∀ st, Tri _ _ _ st _ → _ => hK; first | (apply hK; clear hK) | (clear hK; rename ∀ st, Tri _ _ _ st _ → _ => hK; first | (apply hK; clear hK) | (clear hK; rename ∀ st, Tri _ _ _ st _ → _ => hK; first | (apply hK; clear hK) | (clear hK; rename ∀ st, Tri _ _ _ st _ → _ => hK; first | (apply hK; clear hK) | (clear hK; rename ∀ st, Tri _ _ _ st _ → _ => hK; apply hK; clear hK)))))) | skip)
      | (intro β)
      | (rename ∀ st, Tri _ _ _ st _ → _ => hK; apply hK; clear hK))
    refine Tri.ret ⟨_, rfl, ?_⟩
    simp [upd, h1]
    exact Wk.refl _
def keysC (a : Att) : List C := [.int .i64 a.slot, .int .i64 a.cslot, .int .i64 a.off, .int .i64 a.frm, .int .i64 a.to, .int .i64 a.flow]
theorem keys_does (a : Att) : Does Try.prog 64 [.agg (attC a)] (.agg (keysC a)) := by
  refine Does.of_body Try.func64 rfl (by kernel_rfl) rfl rfl (by simp) ?_
  intro E
  repeat (first
    | (refine Tri.seq fun K hK => ?_)
    | (refine Tri.region ?_; simp [upd])
    | (refine Tri.draw (by kernel_rfl) (by decide +kernel) ?_; simp [upd])
    | (refine Tri.cond_true ?_ ?_; (focus simp [upd]; done))
    | (refine Tri.cond_false ?_ ?_; (focus simp [upd]; done))
    | (refine Tri.skip ?_; simp only [thenS, blockS])
    | (refine Tri.block_seq ?_)
    | (refine Tri.block_region ?_)
    | (refine Tri.block_cond ?_)
    | (refine Tri.exit ?_; simp [upd]; first | (rename ∀ st, Tri _ _ _ st _ → _ => hK; first | (apply hK; clear hK) | (clear hK; rename ∀ st, Tri _ _ _ st _ → _ => hK; first | (apply hK; clear hK) | (clear hK; rename ∀ st, Tri _ _ _ st _ → _ => hK; first | (apply hK; clear hK) | (clear hK; rename ∀ st, Tri _ _ _ st _ → _ => hK; first | (apply hK; clear hK) | (clear hK; rename ∀ st, Tri _ _ _ st _ → _ => hK; first | (apply hK; clear hK) | (clear hK; rename ∀ st, Tri _ _ _ st _ → _ => hK; apply hK; clear hK)))))) | skip)
    | (intro β)
    | (rename ∀ st, Tri _ _ _ st _ → _ => hK; apply hK; clear hK))
  exact Tri.ret ⟨.agg (keysC a), by simp [upd, keysC], Wk.refl _⟩
theorem less_does (a b : Att) : Does Try.prog 50 [.agg (attC a), .agg (attC b)] (.c (.bool (decide (cmpA a b < 0)))) := by
  refine Does.of_body Try.func50 rfl (by kernel_rfl) rfl rfl (by simp) ?_
  intro E
  have k1 := keys_does a
  have k2 := keys_does b
  unfold cmpA
  simp only [keysC] at k1 k2
  cases e0 : (a.slot == b.slot)
  case false =>
    rw [orI_cmp_ne _ e0]
    repeat (first
      | (refine Tri.seq fun K hK => ?_)
      | (refine Tri.region ?_; simp [upd, e0, bne, orI])
      | (refine Tri.draw (by kernel_rfl) (by decide +kernel) ?_; simp [upd, e0, bne, orI])
      | (refine Tri.draw2 [5, 6] [0, 1, 2, 3] [4, 5, 6, 7] [] (by kernel_rfl) (by kernel_rfl) (by decide) (by rfl) (by decide +kernel) ?_; simp [upd, e0, bne, orI])
      | (refine Tri.cond_true ?_ ?_; (focus simp [upd, e0, bne, orI]; done))
      | (refine Tri.cond_false ?_ ?_; (focus simp [upd, e0, bne, orI]; done))
      | (refine Tri.skip ?_; simp only [thenS, blockS])
      | (refine Tri.block_seq ?_)
      | (refine Tri.block_region ?_)
      | (refine Tri.block_cond ?_)
      | ((with_reducible refine CallK.pure (k1) (Wks.refl _) ?_); simp [upd, e0, bne, orI])
      | ((with_reducible refine CallK.pure (k2) (Wks.refl _) ?_); simp [upd, e0, bne, orI])
      | (refine Tri.block_loop 8 ?_)
      | (refine Rounds.step ?_)
      | (refine Tri.exit ?_; simp [upd, e0, bne, orI]; first | (rename ∀ st, Tri _ _ _ st _ → _ => hK; first | (apply hK; clear hK) | (clear hK; rename ∀ st, Tri _ _ _ st _ → _ => hK; first | (apply hK; clear hK) | (clear hK; rename ∀ st, Tri _ _ _ st _ → _ => hK; first | (apply hK; clear hK) | (clear hK; rename ∀ st, Tri _ _ _ st _ → _ => hK; first | (apply hK; clear hK) | (clear hK; rename ∀ st, Tri _ _ _ st _ → _ => hK; first | (apply hK; clear hK) | (clear hK; rename ∀ st, Tri _ _ _ st _ → _ => hK; apply hK; clear hK)))))) | skip)
      | (intro β)
      | (rename ∀ st, Tri _ _ _ st _ → _ => hK; apply hK; clear hK))
    refine Tri.ret ⟨_, rfl, ?_⟩
    simp [upd]
    exact Wk.refl _
  rw [orI_cmp_eq _ e0]
  cases e1 : (a.cslot == b.cslot)
  case false =>
    rw [orI_cmp_ne _ e1]
    repeat (first
      | (refine Tri.seq fun K hK => ?_)
      | (refine Tri.region ?_; simp [upd, e0, e1, bne, orI])
      | (refine Tri.draw (by kernel_rfl) (by decide +kernel) ?_; simp [upd, e0, e1, bne, orI])
      | (refine Tri.draw2 [5, 6] [0, 1, 2, 3] [4, 5, 6, 7] [] (by kernel_rfl) (by kernel_rfl) (by decide) (by rfl) (by decide +kernel) ?_; simp [upd, e0, e1, bne, orI])
      | (refine Tri.cond_true ?_ ?_; (focus simp [upd, e0, e1, bne, orI]; done))
      | (refine Tri.cond_false ?_ ?_; (focus simp [upd, e0, e1, bne, orI]; done))
      | (refine Tri.skip ?_; simp only [thenS, blockS])
      | (refine Tri.block_seq ?_)
      | (refine Tri.block_region ?_)
      | (refine Tri.block_cond ?_)
      | ((with_reducible refine CallK.pure (k1) (Wks.refl _) ?_); simp [upd, e0, e1, bne, orI])
      | ((with_reducible refine CallK.pure (k2) (Wks.refl _) ?_); simp [upd, e0, e1, bne, orI])
      | (refine Tri.block_loop 8 ?_)
      | (refine Rounds.step ?_)
      | (refine Tri.exit ?_; simp [upd, e0, e1, bne, orI]; first | (rename ∀ st, Tri _ _ _ st _ → _ => hK; first | (apply hK; clear hK) | (clear hK; rename ∀ st, Tri _ _ _ st _ → _ => hK; first | (apply hK; clear hK) | (clear hK; rename ∀ st, Tri _ _ _ st _ → _ => hK; first | (apply hK; clear hK) | (clear hK; rename ∀ st, Tri _ _ _ st _ → _ => hK; first | (apply hK; clear hK) | (clear hK; rename ∀ st, Tri _ _ _ st _ → _ => hK; first | (apply hK; clear hK) | (clear hK; rename ∀ st, Tri _ _ _ st _ → _ => hK; apply hK; clear hK)))))) | skip)
      | (intro β)
      | (rename ∀ st, Tri _ _ _ st _ → _ => hK; apply hK; clear hK))
    refine Tri.ret ⟨_, rfl, ?_⟩
    simp [upd]
    exact Wk.refl _
  rw [orI_cmp_eq _ e1]
  cases e2 : (a.off == b.off)
  case false =>
    rw [orI_cmp_ne _ e2]
    repeat (first
      | (refine Tri.seq fun K hK => ?_)
      | (refine Tri.region ?_; simp [upd, e0, e1, e2, bne, orI])
      | (refine Tri.draw (by kernel_rfl) (by decide +kernel) ?_; simp [upd, e0, e1, e2, bne, orI])
      | (refine Tri.draw2 [5, 6] [0, 1, 2, 3] [4, 5, 6, 7] [] (by kernel_rfl) (by kernel_rfl) (by decide) (by rfl) (by decide +kernel) ?_; simp [upd, e0, e1, e2, bne, orI])
      | (refine Tri.cond_true ?_ ?_; (focus simp [upd, e0, e1, e2, bne, orI]; done))
      | (refine Tri.cond_false ?_ ?_; (focus simp [upd, e0, e1, e2, bne, orI]; done))
      | (refine Tri.skip ?_; simp only [thenS, blockS])
      | (refine Tri.block_seq ?_)
      | (refine Tri.block_region ?_)
      | (refine Tri.block_cond ?_)
      | ((with_reducible refine CallK.pure (k1) (Wks.refl _) ?_); simp [upd, e0, e1, e2, bne, orI])
      | ((with_reducible refine CallK.pure (k2) (Wks.refl _) ?_); simp [upd, e0, e1, e2, bne, orI])
      | (refine Tri.block_loop 8 ?_)
      | (refine Rounds.step ?_)
      | (refine Tri.exit ?_; simp [upd, e0, e1, e2, bne, orI]; first | (rename ∀ st, Tri _ _ _ st _ → _ => hK; first | (apply hK; clear hK) | (clear hK; rename ∀ st, Tri _ _ _ st _ → _ => hK; first | (apply hK; clear hK) | (clear hK; rename ∀ st, Tri _ _ _ st _ → _ => hK; first | (apply hK; clear hK) | (clear hK; rename ∀ st, Tri _ _ _ st _ → _ => hK; first | (apply hK; clear hK) | (clear hK; rename ∀ st, Tri _ _ _ st _ → _ => hK; first | (apply hK; clear hK) | (clear hK; rename ∀ st, Tri _ _ _ st _ → _ => hK; apply hK; clear hK)))))) | skip)
      | (intro β)
      | (rename ∀ st, Tri _ _ _ st _ → _ => hK; apply hK; clear hK))
    refine Tri.ret ⟨_, rfl, ?_⟩
    simp [upd]
    exact Wk.refl _
  rw [orI_cmp_eq _ e2]
  cases e3 : (a.frm == b.frm)
  case false =>
    rw [orI_cmp_ne _ e3]
    repeat (first
      | (refine Tri.seq fun K hK => ?_)
      | (refine Tri.region ?_; simp [upd, e0, e1, e2, e3, bne, orI])
      | (refine Tri.draw (by kernel_rfl) (by decide +kernel) ?_; simp [upd, e0, e1, e2, e3, bne, orI])
      | (refine Tri.draw2 [5, 6] [0, 1, 2, 3] [4, 5, 6, 7] [] (by kernel_rfl) (by kernel_rfl) (by decide) (by rfl) (by decide +kernel) ?_; simp [upd, e0, e1, e2, e3, bne, orI])
      | (refine Tri.cond_true ?_ ?_; (focus simp [upd, e0, e1, e2, e3, bne, orI]; done))
      | (refine Tri.cond_false ?_ ?_; (focus simp [upd, e0, e1, e2, e3, bne, orI]; done))
      | (refine Tri.skip ?_; simp only [thenS, blockS])
      | (refine Tri.block_seq ?_)
      | (refine Tri.block_region ?_)
      | (refine Tri.block_cond ?_)
      | ((with_reducible refine CallK.pure (k1) (Wks.refl _) ?_); simp [upd, e0, e1, e2, e3, bne, orI])
      | ((with_reducible refine CallK.pure (k2) (Wks.refl _) ?_); simp [upd, e0, e1, e2, e3, bne, orI])
      | (refine Tri.block_loop 8 ?_)
      | (refine Rounds.step ?_)
      | (refine Tri.exit ?_; simp [upd, e0, e1, e2, e3, bne, orI]; first | (rename ∀ st, Tri _ _ _ st _ → _ => hK; first | (apply hK; clear hK) | (clear hK; rename ∀ st, Tri _ _ _ st _ → _ => hK; first | (apply hK; clear hK) | (clear hK; rename ∀ st, Tri _ _ _ st _ → _ => hK; first | (apply hK; clear hK) | (clear hK; rename ∀ st, Tri _ _ _ st _ → _ => hK; first | (apply hK; clear hK) | (clear hK; rename ∀ st, Tri _ _ _ st _ → _ => hK; first | (apply hK; clear hK) | (clear hK; rename ∀ st, Tri _ _ _ st _ → _ => hK; apply hK; clear hK)))))) | skip)
      | (intro β)
      | (rename ∀ st, Tri _ _ _ st _ → _ => hK; apply hK; clear hK))
    refine Tri.ret ⟨_, rfl, ?_⟩
    simp [upd]
    exact Wk.refl _
  rw [orI_cmp_eq _ e3]
  cases e4 : (a.to == b.to)
  case false =>
    rw [orI_cmp_ne _ e4]
    repeat (first
      | (refine Tri.seq fun K hK => ?_)
      | (refine Tri.region ?_; simp [upd, e0, e1, e2, e3, e4, bne, orI])
      | (refine Tri.draw (by kernel_rfl) (by decide +kernel) ?_; simp [upd, e0, e1, e2, e3, e4, bne, orI])
      | (refine Tri.draw2 [5, 6] [0, 1, 2, 3] [4, 5, 6, 7] [] (by kernel_rfl) (by kernel_rfl) (by decide) (by rfl) (by decide +kernel) ?_; simp [upd, e0, e1, e2, e3, e4, bne, orI])
      | (refine Tri.cond_true ?_ ?_; (focus simp [upd, e0, e1, e2, e3, e4, bne, orI]; done))
      | (refine Tri.cond_false ?_ ?_; (focus simp [upd, e0, e1, e2, e3, e4, bne, orI]; done))
      | (refine Tri.skip ?_; simp only [thenS, blockS])
      | (refine Tri.block_seq ?_)
      | (refine Tri.block_region ?_)
      | (refine Tri.block_cond ?_)
      | ((with_reducible refine CallK.pure (k1) (Wks.refl _) ?_); simp [upd, e0, e1, e2, e3, e4, bne, orI])
      | ((with_reducible refine CallK.pure (k2) (Wks.refl _) ?_); simp [upd, e0, e1, e2, e3, e4, bne, orI])
      | (refine Tri.block_loop 8 ?_)
      | (refine Rounds.step ?_)
      | (refine Tri.exit ?_; simp [upd, e0, e1, e2, e3, e4, bne, orI]; first | (rename ∀ st, Tri _ _ _ st _ → _ => hK; first | (apply hK; clear hK) | (clear hK; rename ∀ st, Tri _ _ _ st _ → _ => hK; first | (apply hK; clear hK) | (clear hK; rename ∀ st, Tri _ _ _ st _ → _ => hK; first | (apply hK; clear hK) | (clear hK; rename ∀ st, Tri _ _ _ st _ → _ => hK; first | (apply hK; clear hK) | (clear hK; rename ∀ st, Tri _ _ _ st _ → _ => hK; first | (apply hK; clear hK) | (clear hK; rename ∀ st, Tri _ _ _ st _ → _ => hK; apply hK; clear hK)))))) | skip)
      | (intro β)
      | (rename ∀ st, Tri _ _ _ st _ → _ => hK; apply hK; clear hK))
    refine Tri.ret ⟨_, rfl, ?_⟩
    simp [upd]
    exact Wk.refl _
  rw [orI_cmp_eq _ e4]
  cases e5 : (a.flow == b.flow)
  case false =>
    rw [orI_cmp_ne _ e5]
    repeat (first
      | (refine Tri.seq fun K hK => ?_)
      | (refine Tri.region ?_; simp [upd, e0, e1, e2, e3, e4, e5, bne, orI])
      | (refine Tri.draw (by kernel_rfl) (by decide +kernel) ?_; simp [upd, e0, e1, e2, e3, e4, e5, bne, orI])
      | (refine Tri.draw2 [5, 6] [0, 1, 2, 3] [4, 5, 6, 7] [] (by kernel_rfl) (by kernel_rfl) (by decide) (by rfl) (by decide +kernel) ?_; simp [upd, e0, e1, e2, e3, e4, e5, bne, orI])
      | (refine Tri.cond_true ?_ ?_; (focus simp [upd, e0, e1, e2, e3, e4, e5, bne, orI]; done))
      | (refine Tri.cond_false ?_ ?_; (focus simp [upd, e0, e1, e2, e3, e4, e5, bne, orI]; done))
      | (refine Tri.skip ?_; simp only [thenS, blockS])
      | (refine Tri.block_seq ?_)
      | (refine Tri.block_region ?_)
      | (refine Tri.block_cond ?_)
      | ((with_reducible refine CallK.pure (k1) (Wks.refl _) ?_); simp [upd, e0, e1, e2, e3, e4, e5, bne, orI])
      | ((with_reducible refine CallK.pure (k2) (Wks.refl _) ?_); simp [upd, e0, e1, e2, e3, e4, e5, bne, orI])
      | (refine Tri.block_loop 8 ?_)
      | (refine Rounds.step ?_)
      | (refine Tri.exit ?_; simp [upd, e0, e1, e2, e3, e4, e5, bne, orI]; first | (rename ∀ st, Tri _ _ _ st _ → _ => hK; first | (apply hK; clear hK) | (clear hK; rename ∀ st, Tri _ _ _ st _ → _ => hK; first | (apply hK; clear hK) | (clear hK; rename ∀ st, Tri _ _ _ st _ → _ => hK; first | (apply hK; clear hK) | (clear hK; rename ∀ st, Tri _ _ _ st _ → _ => hK; first | (apply hK; clear hK) | (clear hK; rename ∀ st, Tri _ _ _ st _ → _ => hK; first | (apply hK; clear hK) | (clear hK; rename ∀ st, Tri _ _ _ st _ → _ => hK; apply hK; clear hK)))))) | skip)
      | (intro β)
      | (rename ∀ st, Tri _ _ _ st _ → _ => hK; apply hK; clear hK))
    refine Tri.ret ⟨_, rfl, ?_⟩
    simp [upd]
    exact Wk.refl _
  rw [orI_cmp_eq _ e5]
  repeat (first
    | (refine Tri.seq fun K hK => ?_)
    | (refine Tri.region ?_; simp [upd, e0, e1, e2, e3, e4, e5, bne, orI])
    | (refine Tri.draw (by kernel_rfl) (by decide +kernel) ?_; simp [upd, e0, e1, e2, e3, e4, e5, bne, orI])
    | (refine Tri.draw2 [5, 6] [0, 1, 2, 3] [4, 5, 6, 7] [] (by kernel_rfl) (by kernel_rfl) (by decide) (by rfl) (by decide +kernel) ?_; simp [upd, e0, e1, e2, e3, e4, e5, bne, orI])
    | (refine Tri.cond_true ?_ ?_; (focus simp [upd, e0, e1, e2, e3, e4, e5, bne, orI]; done))
    | (refine Tri.cond_false ?_ ?_; (focus simp [upd, e0, e1, e2, e3, e4, e5, bne, orI]; done))
    | (refine Tri.skip ?_; simp only [thenS, blockS])
    | (refine Tri.block_seq ?_)
    | (refine Tri.block_region ?_)
    | (refine Tri.block_cond ?_)
    | ((with_reducible refine CallK.pure (k1) (Wks.refl _) ?_); simp [upd, e0, e1, e2, e3, e4, e5, bne, orI])
    | ((with_reducible refine CallK.pure (k2) (Wks.refl _) ?_); simp [upd, e0, e1, e2, e3, e4, e5, bne, orI])
    | (refine Tri.block_loop 8 ?_)
    | (refine Rounds.step ?_)
    | (refine Tri.exit ?_; simp [upd, e0, e1, e2, e3, e4, e5, bne, orI]; first | (rename ∀ st, Tri _ _ _ st _ → _ => hK; first | (apply hK; clear hK) | (clear hK; rename ∀ st, Tri _ _ _ st _ → _ => hK; first | (apply hK; clear hK) | (clear hK; rename ∀ st, Tri _ _ _ st _ → _ => hK; first | (apply hK; clear hK) | (clear hK; rename ∀ st, Tri _ _ _ st _ → _ => hK; first | (apply hK; clear hK) | (clear hK; rename ∀ st, Tri _ _ _ st _ → _ => hK; first | (apply hK; clear hK) | (clear hK; rename ∀ st, Tri _ _ _ st _ → _ => hK; apply hK; clear hK)))))) | skip)
    | (intro β)
    | (rename ∀ st, Tri _ _ _ st _ → _ => hK; apply hK; clear hK))
  refine Tri.ret ⟨_, rfl, ?_⟩
  simp [upd]
  exact Wk.refl _
end Go.Proofs.Ytcohdlochpjnjaa
end
section
open Go Go.Vm
namespace Go.Proofs.Ytcohdlochpjnjaa
set_option maxRecDepth 100000
set_option maxHeartbeats 4000000
set_option linter.unusedSimpArgs false
theorem inB_below (n hi e : Int) (h : hi + 1 = e) : inB n 0 hi = belowB n e := by
  unfold inB belowB
  rw [Bool.eq_iff_iff]
  simp only [Bool.and_eq_true, decide_eq_true_eq]
  omega
theorem in0_does (n hi e : Int) (h : hi + 1 = e) : Does Try.prog 48 [.c (.int .i64 n), .c (.int .i64 0), .c (.int .i64 hi)] (.c (.bool (belowB n e))) := inB_below n hi e h ▸ in_does n 0 hi
theorem in14_does (n : Int) : Does Try.prog 48 [.c (.int .i64 n), .c (.int .i64 1), .c (.int .i64 4)] (.c (.bool (decide (1 ≤ n) && decide (n ≤ 4)))) := in_does n 1 4
attribute [local irreducible] Tri Does DoesB Rounds check sameB inB
theorem attR_does (r : Rec) (a : Att) (h0 : 0 ≤ r.slots) (h1 : r.slots ≤ 4096) : Does Try.prog 49 [.agg (recC r), .agg (attC a)] (.c (.bool (attOk a r.slots))) := by
  refine Does.of_body Try.func49 rfl (by kernel_rfl) rfl rfl (by simp) ?_
  intro E
  have hw : IntKind.i64.wrap (r.slots - 1) = r.slots - 1 := wrap_i64 (by omega) (by omega)
  have i1 := in0_does a.slot (r.slots - 1) r.slots (by omega)
  have i2 := in0_does a.frame 1048575 1048576 (by omega)
  have i3 := in0_does a.cslot 511 512 (by omega)
  have i4 := in0_does a.off 15 16 (by omega)
  have i5 := in0_does a.frm 31 32 (by omega)
  have i6 := in0_does a.to 31 32 (by omega)
  have i7 := in0_does a.flow 255 256 (by omega)
  have i8 := in14_does a.out
  simp only [recC]
  unfold attOk
  cases h1 : belowB a.slot r.slots
  case false =>
    repeat (first
      | (refine Tri.seq fun K hK => ?_)
      | (refine Tri.region ?_; simp [upd, hw, h1])
      | (refine Tri.draw (by kernel_rfl) (by decide +kernel) ?_; simp [upd, hw, h1])
      | (refine Tri.cond_true ?_ ?_; (focus simp [upd, hw, h1]; done))
      | (refine Tri.cond_false ?_ ?_; (focus simp [upd, hw, h1]; done))
      | (refine Tri.skip ?_; simp only [thenS, blockS])
      | (refine Tri.block_seq ?_)
      | (refine Tri.block_region ?_)
      | (refine Tri.block_cond ?_)
      | ((with_reducible refine CallK.pure (i1) (Wks.refl _) ?_); simp [upd, hw, h1])
      | ((with_reducible refine CallK.pure (i2) (Wks.refl _) ?_); simp [upd, hw, h1])
      | ((with_reducible refine CallK.pure (i3) (Wks.refl _) ?_); simp [upd, hw, h1])
      | ((with_reducible refine CallK.pure (i4) (Wks.refl _) ?_); simp [upd, hw, h1])
      | ((with_reducible refine CallK.pure (i5) (Wks.refl _) ?_); simp [upd, hw, h1])
      | ((with_reducible refine CallK.pure (i6) (Wks.refl _) ?_); simp [upd, hw, h1])
      | ((with_reducible refine CallK.pure (i7) (Wks.refl _) ?_); simp [upd, hw, h1])
      | ((with_reducible refine CallK.pure (i8) (Wks.refl _) ?_); simp [upd, hw, h1])
      | (refine Tri.exit ?_; simp [upd, hw, h1]; first | (rename ∀ st, Tri _ _ _ st _ → _ => hK; first | (apply hK; clear hK) | (clear hK; rename ∀ st, Tri _ _ _ st _ → _ => hK; first | (apply hK; clear hK) | (clear hK; rename ∀ st, Tri _ _ _ st _ → _ => hK; first | (apply hK; clear hK) | (clear hK; rename ∀ st, Tri _ _ _ st _ → _ => hK; first | (apply hK; clear hK) | (clear hK; rename ∀ st, Tri _ _ _ st _ → _ => hK; first | (apply hK; clear hK) | (clear hK; rename ∀ st, Tri _ _ _ st _ → _ => hK; apply hK; clear hK)))))) | skip)
      | (intro β)
      | (rename ∀ st, Tri _ _ _ st _ → _ => hK; apply hK; clear hK))
    refine Tri.ret ⟨_, rfl, ?_⟩
    simp [upd]
    exact Wk.refl _
  cases h2 : belowB a.frame 1048576
  case false =>
    repeat (first
      | (refine Tri.seq fun K hK => ?_)
      | (refine Tri.region ?_; simp [upd, hw, h1, h2])
      | (refine Tri.draw (by kernel_rfl) (by decide +kernel) ?_; simp [upd, hw, h1, h2])
      | (refine Tri.cond_true ?_ ?_; (focus simp [upd, hw, h1, h2]; done))
      | (refine Tri.cond_false ?_ ?_; (focus simp [upd, hw, h1, h2]; done))
      | (refine Tri.skip ?_; simp only [thenS, blockS])
      | (refine Tri.block_seq ?_)
      | (refine Tri.block_region ?_)
      | (refine Tri.block_cond ?_)
      | ((with_reducible refine CallK.pure (i1) (Wks.refl _) ?_); simp [upd, hw, h1, h2])
      | ((with_reducible refine CallK.pure (i2) (Wks.refl _) ?_); simp [upd, hw, h1, h2])
      | ((with_reducible refine CallK.pure (i3) (Wks.refl _) ?_); simp [upd, hw, h1, h2])
      | ((with_reducible refine CallK.pure (i4) (Wks.refl _) ?_); simp [upd, hw, h1, h2])
      | ((with_reducible refine CallK.pure (i5) (Wks.refl _) ?_); simp [upd, hw, h1, h2])
      | ((with_reducible refine CallK.pure (i6) (Wks.refl _) ?_); simp [upd, hw, h1, h2])
      | ((with_reducible refine CallK.pure (i7) (Wks.refl _) ?_); simp [upd, hw, h1, h2])
      | ((with_reducible refine CallK.pure (i8) (Wks.refl _) ?_); simp [upd, hw, h1, h2])
      | (refine Tri.exit ?_; simp [upd, hw, h1, h2]; first | (rename ∀ st, Tri _ _ _ st _ → _ => hK; first | (apply hK; clear hK) | (clear hK; rename ∀ st, Tri _ _ _ st _ → _ => hK; first | (apply hK; clear hK) | (clear hK; rename ∀ st, Tri _ _ _ st _ → _ => hK; first | (apply hK; clear hK) | (clear hK; rename ∀ st, Tri _ _ _ st _ → _ => hK; first | (apply hK; clear hK) | (clear hK; rename ∀ st, Tri _ _ _ st _ → _ => hK; first | (apply hK; clear hK) | (clear hK; rename ∀ st, Tri _ _ _ st _ → _ => hK; apply hK; clear hK)))))) | skip)
      | (intro β)
      | (rename ∀ st, Tri _ _ _ st _ → _ => hK; apply hK; clear hK))
    refine Tri.ret ⟨_, rfl, ?_⟩
    simp [upd]
    exact Wk.refl _
  cases h3 : belowB a.cslot 512
  case false =>
    repeat (first
      | (refine Tri.seq fun K hK => ?_)
      | (refine Tri.region ?_; simp [upd, hw, h1, h2, h3])
      | (refine Tri.draw (by kernel_rfl) (by decide +kernel) ?_; simp [upd, hw, h1, h2, h3])
      | (refine Tri.cond_true ?_ ?_; (focus simp [upd, hw, h1, h2, h3]; done))
      | (refine Tri.cond_false ?_ ?_; (focus simp [upd, hw, h1, h2, h3]; done))
      | (refine Tri.skip ?_; simp only [thenS, blockS])
      | (refine Tri.block_seq ?_)
      | (refine Tri.block_region ?_)
      | (refine Tri.block_cond ?_)
      | ((with_reducible refine CallK.pure (i1) (Wks.refl _) ?_); simp [upd, hw, h1, h2, h3])
      | ((with_reducible refine CallK.pure (i2) (Wks.refl _) ?_); simp [upd, hw, h1, h2, h3])
      | ((with_reducible refine CallK.pure (i3) (Wks.refl _) ?_); simp [upd, hw, h1, h2, h3])
      | ((with_reducible refine CallK.pure (i4) (Wks.refl _) ?_); simp [upd, hw, h1, h2, h3])
      | ((with_reducible refine CallK.pure (i5) (Wks.refl _) ?_); simp [upd, hw, h1, h2, h3])
      | ((with_reducible refine CallK.pure (i6) (Wks.refl _) ?_); simp [upd, hw, h1, h2, h3])
      | ((with_reducible refine CallK.pure (i7) (Wks.refl _) ?_); simp [upd, hw, h1, h2, h3])
      | ((with_reducible refine CallK.pure (i8) (Wks.refl _) ?_); simp [upd, hw, h1, h2, h3])
      | (refine Tri.exit ?_; simp [upd, hw, h1, h2, h3]; first | (rename ∀ st, Tri _ _ _ st _ → _ => hK; first | (apply hK; clear hK) | (clear hK; rename ∀ st, Tri _ _ _ st _ → _ => hK; first | (apply hK; clear hK) | (clear hK; rename ∀ st, Tri _ _ _ st _ → _ => hK; first | (apply hK; clear hK) | (clear hK; rename ∀ st, Tri _ _ _ st _ → _ => hK; first | (apply hK; clear hK) | (clear hK; rename ∀ st, Tri _ _ _ st _ → _ => hK; first | (apply hK; clear hK) | (clear hK; rename ∀ st, Tri _ _ _ st _ → _ => hK; apply hK; clear hK)))))) | skip)
      | (intro β)
      | (rename ∀ st, Tri _ _ _ st _ → _ => hK; apply hK; clear hK))
    refine Tri.ret ⟨_, rfl, ?_⟩
    simp [upd]
    exact Wk.refl _
  cases h4 : belowB a.off 16
  case false =>
    repeat (first
      | (refine Tri.seq fun K hK => ?_)
      | (refine Tri.region ?_; simp [upd, hw, h1, h2, h3, h4])
      | (refine Tri.draw (by kernel_rfl) (by decide +kernel) ?_; simp [upd, hw, h1, h2, h3, h4])
      | (refine Tri.cond_true ?_ ?_; (focus simp [upd, hw, h1, h2, h3, h4]; done))
      | (refine Tri.cond_false ?_ ?_; (focus simp [upd, hw, h1, h2, h3, h4]; done))
      | (refine Tri.skip ?_; simp only [thenS, blockS])
      | (refine Tri.block_seq ?_)
      | (refine Tri.block_region ?_)
      | (refine Tri.block_cond ?_)
      | ((with_reducible refine CallK.pure (i1) (Wks.refl _) ?_); simp [upd, hw, h1, h2, h3, h4])
      | ((with_reducible refine CallK.pure (i2) (Wks.refl _) ?_); simp [upd, hw, h1, h2, h3, h4])
      | ((with_reducible refine CallK.pure (i3) (Wks.refl _) ?_); simp [upd, hw, h1, h2, h3, h4])
      | ((with_reducible refine CallK.pure (i4) (Wks.refl _) ?_); simp [upd, hw, h1, h2, h3, h4])
      | ((with_reducible refine CallK.pure (i5) (Wks.refl _) ?_); simp [upd, hw, h1, h2, h3, h4])
      | ((with_reducible refine CallK.pure (i6) (Wks.refl _) ?_); simp [upd, hw, h1, h2, h3, h4])
      | ((with_reducible refine CallK.pure (i7) (Wks.refl _) ?_); simp [upd, hw, h1, h2, h3, h4])
      | ((with_reducible refine CallK.pure (i8) (Wks.refl _) ?_); simp [upd, hw, h1, h2, h3, h4])
      | (refine Tri.exit ?_; simp [upd, hw, h1, h2, h3, h4]; first | (rename ∀ st, Tri _ _ _ st _ → _ => hK; first | (apply hK; clear hK) | (clear hK; rename ∀ st, Tri _ _ _ st _ → _ => hK; first | (apply hK; clear hK) | (clear hK; rename ∀ st, Tri _ _ _ st _ → _ => hK; first | (apply hK; clear hK) | (clear hK; rename ∀ st, Tri _ _ _ st _ → _ => hK; first | (apply hK; clear hK) | (clear hK; rename ∀ st, Tri _ _ _ st _ → _ => hK; first | (apply hK; clear hK) | (clear hK; rename ∀ st, Tri _ _ _ st _ → _ => hK; apply hK; clear hK)))))) | skip)
      | (intro β)
      | (rename ∀ st, Tri _ _ _ st _ → _ => hK; apply hK; clear hK))
    refine Tri.ret ⟨_, rfl, ?_⟩
    simp [upd]
    exact Wk.refl _
  cases h5 : belowB a.frm 32
  case false =>
    repeat (first
      | (refine Tri.seq fun K hK => ?_)
      | (refine Tri.region ?_; simp [upd, hw, h1, h2, h3, h4, h5])
      | (refine Tri.draw (by kernel_rfl) (by decide +kernel) ?_; simp [upd, hw, h1, h2, h3, h4, h5])
      | (refine Tri.cond_true ?_ ?_; (focus simp [upd, hw, h1, h2, h3, h4, h5]; done))
      | (refine Tri.cond_false ?_ ?_; (focus simp [upd, hw, h1, h2, h3, h4, h5]; done))
      | (refine Tri.skip ?_; simp only [thenS, blockS])
      | (refine Tri.block_seq ?_)
      | (refine Tri.block_region ?_)
      | (refine Tri.block_cond ?_)
      | ((with_reducible refine CallK.pure (i1) (Wks.refl _) ?_); simp [upd, hw, h1, h2, h3, h4, h5])
      | ((with_reducible refine CallK.pure (i2) (Wks.refl _) ?_); simp [upd, hw, h1, h2, h3, h4, h5])
      | ((with_reducible refine CallK.pure (i3) (Wks.refl _) ?_); simp [upd, hw, h1, h2, h3, h4, h5])
      | ((with_reducible refine CallK.pure (i4) (Wks.refl _) ?_); simp [upd, hw, h1, h2, h3, h4, h5])
      | ((with_reducible refine CallK.pure (i5) (Wks.refl _) ?_); simp [upd, hw, h1, h2, h3, h4, h5])
      | ((with_reducible refine CallK.pure (i6) (Wks.refl _) ?_); simp [upd, hw, h1, h2, h3, h4, h5])
      | ((with_reducible refine CallK.pure (i7) (Wks.refl _) ?_); simp [upd, hw, h1, h2, h3, h4, h5])
      | ((with_reducible refine CallK.pure (i8) (Wks.refl _) ?_); simp [upd, hw, h1, h2, h3, h4, h5])
      | (refine Tri.exit ?_; simp [upd, hw, h1, h2, h3, h4, h5]; first | (rename ∀ st, Tri _ _ _ st _ → _ => hK; first | (apply hK; clear hK) | (clear hK; rename ∀ st, Tri _ _ _ st _ → _ => hK; first | (apply hK; clear hK) | (clear hK; rename ∀ st, Tri _ _ _ st _ → _ => hK; first | (apply hK; clear hK) | (clear hK; rename ∀ st, Tri _ _ _ st _ → _ => hK; first | (apply hK; clear hK) | (clear hK; rename ∀ st, Tri _ _ _ st _ → _ => hK; first | (apply hK; clear hK) | (clear hK; rename ∀ st, Tri _ _ _ st _ → _ => hK; apply hK; clear hK)))))) | skip)
      | (intro β)
      | (rename ∀ st, Tri _ _ _ st _ → _ => hK; apply hK; clear hK))
    refine Tri.ret ⟨_, rfl, ?_⟩
    simp [upd]
    exact Wk.refl _
  cases h6 : belowB a.to 32
  case false =>
    repeat (first
      | (refine Tri.seq fun K hK => ?_)
      | (refine Tri.region ?_; simp [upd, hw, h1, h2, h3, h4, h5, h6])
      | (refine Tri.draw (by kernel_rfl) (by decide +kernel) ?_; simp [upd, hw, h1, h2, h3, h4, h5, h6])
      | (refine Tri.cond_true ?_ ?_; (focus simp [upd, hw, h1, h2, h3, h4, h5, h6]; done))
      | (refine Tri.cond_false ?_ ?_; (focus simp [upd, hw, h1, h2, h3, h4, h5, h6]; done))
      | (refine Tri.skip ?_; simp only [thenS, blockS])
      | (refine Tri.block_seq ?_)
      | (refine Tri.block_region ?_)
      | (refine Tri.block_cond ?_)
      | ((with_reducible refine CallK.pure (i1) (Wks.refl _) ?_); simp [upd, hw, h1, h2, h3, h4, h5, h6])
      | ((with_reducible refine CallK.pure (i2) (Wks.refl _) ?_); simp [upd, hw, h1, h2, h3, h4, h5, h6])
      | ((with_reducible refine CallK.pure (i3) (Wks.refl _) ?_); simp [upd, hw, h1, h2, h3, h4, h5, h6])
      | ((with_reducible refine CallK.pure (i4) (Wks.refl _) ?_); simp [upd, hw, h1, h2, h3, h4, h5, h6])
      | ((with_reducible refine CallK.pure (i5) (Wks.refl _) ?_); simp [upd, hw, h1, h2, h3, h4, h5, h6])
      | ((with_reducible refine CallK.pure (i6) (Wks.refl _) ?_); simp [upd, hw, h1, h2, h3, h4, h5, h6])
      | ((with_reducible refine CallK.pure (i7) (Wks.refl _) ?_); simp [upd, hw, h1, h2, h3, h4, h5, h6])
      | ((with_reducible refine CallK.pure (i8) (Wks.refl _) ?_); simp [upd, hw, h1, h2, h3, h4, h5, h6])
      | (refine Tri.exit ?_; simp [upd, hw, h1, h2, h3, h4, h5, h6]; first | (rename ∀ st, Tri _ _ _ st _ → _ => hK; first | (apply hK; clear hK) | (clear hK; rename ∀ st, Tri _ _ _ st _ → _ => hK; first | (apply hK; clear hK) | (clear hK; rename ∀ st, Tri _ _ _ st _ → _ => hK; first | (apply hK; clear hK) | (clear hK; rename ∀ st, Tri _ _ _ st _ → _ => hK; first | (apply hK; clear hK) | (clear hK; rename ∀ st, Tri _ _ _ st _ → _ => hK; first | (apply hK; clear hK) | (clear hK; rename ∀ st, Tri _ _ _ st _ → _ => hK; apply hK; clear hK)))))) | skip)
      | (intro β)
      | (rename ∀ st, Tri _ _ _ st _ → _ => hK; apply hK; clear hK))
    refine Tri.ret ⟨_, rfl, ?_⟩
    simp [upd]
    exact Wk.refl _
  cases h7 : (a.frm == a.to)
  case true =>
    repeat (first
      | (refine Tri.seq fun K hK => ?_)
      | (refine Tri.region ?_; simp [upd, hw, h1, h2, h3, h4, h5, h6, h7, bne])
      | (refine Tri.draw (by kernel_rfl) (by decide +kernel) ?_; simp [upd, hw, h1, h2, h3, h4, h5, h6, h7, bne])
      | (refine Tri.cond_true ?_ ?_; (focus simp [upd, hw, h1, h2, h3, h4, h5, h6, h7, bne]; done))
      | (refine Tri.cond_false ?_ ?_; (focus simp [upd, hw, h1, h2, h3, h4, h5, h6, h7, bne]; done))
      | (refine Tri.skip ?_; simp only [thenS, blockS])
      | (refine Tri.block_seq ?_)
      | (refine Tri.block_region ?_)
      | (refine Tri.block_cond ?_)
      | ((with_reducible refine CallK.pure (i1) (Wks.refl _) ?_); simp [upd, hw, h1, h2, h3, h4, h5, h6, h7, bne])
      | ((with_reducible refine CallK.pure (i2) (Wks.refl _) ?_); simp [upd, hw, h1, h2, h3, h4, h5, h6, h7, bne])
      | ((with_reducible refine CallK.pure (i3) (Wks.refl _) ?_); simp [upd, hw, h1, h2, h3, h4, h5, h6, h7, bne])
      | ((with_reducible refine CallK.pure (i4) (Wks.refl _) ?_); simp [upd, hw, h1, h2, h3, h4, h5, h6, h7, bne])
      | ((with_reducible refine CallK.pure (i5) (Wks.refl _) ?_); simp [upd, hw, h1, h2, h3, h4, h5, h6, h7, bne])
      | ((with_reducible refine CallK.pure (i6) (Wks.refl _) ?_); simp [upd, hw, h1, h2, h3, h4, h5, h6, h7, bne])
      | ((with_reducible refine CallK.pure (i7) (Wks.refl _) ?_); simp [upd, hw, h1, h2, h3, h4, h5, h6, h7, bne])
      | ((with_reducible refine CallK.pure (i8) (Wks.refl _) ?_); simp [upd, hw, h1, h2, h3, h4, h5, h6, h7, bne])
      | (refine Tri.exit ?_; simp [upd, hw, h1, h2, h3, h4, h5, h6, h7, bne]; first | (rename ∀ st, Tri _ _ _ st _ → _ => hK; first | (apply hK; clear hK) | (clear hK; rename ∀ st, Tri _ _ _ st _ → _ => hK; first | (apply hK; clear hK) | (clear hK; rename ∀ st, Tri _ _ _ st _ → _ => hK; first | (apply hK; clear hK) | (clear hK; rename ∀ st, Tri _ _ _ st _ → _ => hK; first | (apply hK; clear hK) | (clear hK; rename ∀ st, Tri _ _ _ st _ → _ => hK; first | (apply hK; clear hK) | (clear hK; rename ∀ st, Tri _ _ _ st _ → _ => hK; apply hK; clear hK)))))) | skip)
      | (intro β)
      | (rename ∀ st, Tri _ _ _ st _ → _ => hK; apply hK; clear hK))
    refine Tri.ret ⟨_, rfl, ?_⟩
    simp [upd]
    exact Wk.refl _
  cases h8 : belowB a.flow 256
  case false =>
    repeat (first
      | (refine Tri.seq fun K hK => ?_)
      | (refine Tri.region ?_; simp [upd, hw, h1, h2, h3, h4, h5, h6, h7, h8, bne])
      | (refine Tri.draw (by kernel_rfl) (by decide +kernel) ?_; simp [upd, hw, h1, h2, h3, h4, h5, h6, h7, h8, bne])
      | (refine Tri.cond_true ?_ ?_; (focus simp [upd, hw, h1, h2, h3, h4, h5, h6, h7, h8, bne]; done))
      | (refine Tri.cond_false ?_ ?_; (focus simp [upd, hw, h1, h2, h3, h4, h5, h6, h7, h8, bne]; done))
      | (refine Tri.skip ?_; simp only [thenS, blockS])
      | (refine Tri.block_seq ?_)
      | (refine Tri.block_region ?_)
      | (refine Tri.block_cond ?_)
      | ((with_reducible refine CallK.pure (i1) (Wks.refl _) ?_); simp [upd, hw, h1, h2, h3, h4, h5, h6, h7, h8, bne])
      | ((with_reducible refine CallK.pure (i2) (Wks.refl _) ?_); simp [upd, hw, h1, h2, h3, h4, h5, h6, h7, h8, bne])
      | ((with_reducible refine CallK.pure (i3) (Wks.refl _) ?_); simp [upd, hw, h1, h2, h3, h4, h5, h6, h7, h8, bne])
      | ((with_reducible refine CallK.pure (i4) (Wks.refl _) ?_); simp [upd, hw, h1, h2, h3, h4, h5, h6, h7, h8, bne])
      | ((with_reducible refine CallK.pure (i5) (Wks.refl _) ?_); simp [upd, hw, h1, h2, h3, h4, h5, h6, h7, h8, bne])
      | ((with_reducible refine CallK.pure (i6) (Wks.refl _) ?_); simp [upd, hw, h1, h2, h3, h4, h5, h6, h7, h8, bne])
      | ((with_reducible refine CallK.pure (i7) (Wks.refl _) ?_); simp [upd, hw, h1, h2, h3, h4, h5, h6, h7, h8, bne])
      | ((with_reducible refine CallK.pure (i8) (Wks.refl _) ?_); simp [upd, hw, h1, h2, h3, h4, h5, h6, h7, h8, bne])
      | (refine Tri.exit ?_; simp [upd, hw, h1, h2, h3, h4, h5, h6, h7, h8, bne]; first | (rename ∀ st, Tri _ _ _ st _ → _ => hK; first | (apply hK; clear hK) | (clear hK; rename ∀ st, Tri _ _ _ st _ → _ => hK; first | (apply hK; clear hK) | (clear hK; rename ∀ st, Tri _ _ _ st _ → _ => hK; first | (apply hK; clear hK) | (clear hK; rename ∀ st, Tri _ _ _ st _ → _ => hK; first | (apply hK; clear hK) | (clear hK; rename ∀ st, Tri _ _ _ st _ → _ => hK; first | (apply hK; clear hK) | (clear hK; rename ∀ st, Tri _ _ _ st _ → _ => hK; apply hK; clear hK)))))) | skip)
      | (intro β)
      | (rename ∀ st, Tri _ _ _ st _ → _ => hK; apply hK; clear hK))
    refine Tri.ret ⟨_, rfl, ?_⟩
    simp [upd]
    exact Wk.refl _
  repeat (first
    | (refine Tri.seq fun K hK => ?_)
    | (refine Tri.region ?_; simp [upd, hw, h1, h2, h3, h4, h5, h6, h7, h8, bne])
    | (refine Tri.draw (by kernel_rfl) (by decide +kernel) ?_; simp [upd, hw, h1, h2, h3, h4, h5, h6, h7, h8, bne])
    | (refine Tri.cond_true ?_ ?_; (focus simp [upd, hw, h1, h2, h3, h4, h5, h6, h7, h8, bne]; done))
    | (refine Tri.cond_false ?_ ?_; (focus simp [upd, hw, h1, h2, h3, h4, h5, h6, h7, h8, bne]; done))
    | (refine Tri.skip ?_; simp only [thenS, blockS])
    | (refine Tri.block_seq ?_)
    | (refine Tri.block_region ?_)
    | (refine Tri.block_cond ?_)
    | ((with_reducible refine CallK.pure (i1) (Wks.refl _) ?_); simp [upd, hw, h1, h2, h3, h4, h5, h6, h7, h8, bne])
    | ((with_reducible refine CallK.pure (i2) (Wks.refl _) ?_); simp [upd, hw, h1, h2, h3, h4, h5, h6, h7, h8, bne])
    | ((with_reducible refine CallK.pure (i3) (Wks.refl _) ?_); simp [upd, hw, h1, h2, h3, h4, h5, h6, h7, h8, bne])
    | ((with_reducible refine CallK.pure (i4) (Wks.refl _) ?_); simp [upd, hw, h1, h2, h3, h4, h5, h6, h7, h8, bne])
    | ((with_reducible refine CallK.pure (i5) (Wks.refl _) ?_); simp [upd, hw, h1, h2, h3, h4, h5, h6, h7, h8, bne])
    | ((with_reducible refine CallK.pure (i6) (Wks.refl _) ?_); simp [upd, hw, h1, h2, h3, h4, h5, h6, h7, h8, bne])
    | ((with_reducible refine CallK.pure (i7) (Wks.refl _) ?_); simp [upd, hw, h1, h2, h3, h4, h5, h6, h7, h8, bne])
    | ((with_reducible refine CallK.pure (i8) (Wks.refl _) ?_); simp [upd, hw, h1, h2, h3, h4, h5, h6, h7, h8, bne])
    | (refine Tri.exit ?_; simp [upd, hw, h1, h2, h3, h4, h5, h6, h7, h8, bne]; first | (rename ∀ st, Tri _ _ _ st _ → _ => hK; first | (apply hK; clear hK) | (clear hK; rename ∀ st, Tri _ _ _ st _ → _ => hK; first | (apply hK; clear hK) | (clear hK; rename ∀ st, Tri _ _ _ st _ → _ => hK; first | (apply hK; clear hK) | (clear hK; rename ∀ st, Tri _ _ _ st _ → _ => hK; first | (apply hK; clear hK) | (clear hK; rename ∀ st, Tri _ _ _ st _ → _ => hK; first | (apply hK; clear hK) | (clear hK; rename ∀ st, Tri _ _ _ st _ → _ => hK; apply hK; clear hK)))))) | skip)
    | (intro β)
    | (rename ∀ st, Tri _ _ _ st _ → _ => hK; apply hK; clear hK))
  refine Tri.ret ⟨_, rfl, ?_⟩
  simp [upd]
  exact Wk.refl _
structure KI (r : Rec) (st : St) (b1 : Nat) : Prop where
  hn : st.n = 152
  s1 : st.sl 1 = .c (.box 1 b1 0)
  x1 : st.bx 1 = some (b1, [.int .i64 r.slots, .sl r.an 8 none (r.atts.map attC), .sl r.dn 3 none (r.dels.map delC)])
/-- The first i attempts are in order. -/
def UpA (r : Rec) (i : Nat) : Prop := (∀ k (_ : k < r.atts.length), k < i → attOk r.atts[k] r.slots = true) ∧ ∀ k l (_ : k < r.atts.length) (_ : l < r.atts.length), k < l → l < i → okA r.atts[k] r.atts[l]
def UpD (r : Rec) (i : Nat) : Prop := (∀ k (_ : k < r.dels.length), k < i → delOk r.dels[k] r.slots) ∧ ∀ k l (_ : k < r.dels.length) (_ : l < r.dels.length), k < l → l < i → ltD r.dels[k] r.dels[l]
theorem UpA.all {r : Rec} (h : UpA r r.atts.length) : AttsP r.slots r.atts :=
  ⟨fun a ha => by obtain ⟨k, hk, rfl⟩ := List.getElem_of_mem ha; exact h.1 k hk hk, List.pairwise_iff_getElem.2 fun k l hk hl hkl => h.2 k l hk hl hkl hl⟩
theorem UpD.all {r : Rec} (h : UpD r r.dels.length) : DelsP r.slots r.dels :=
  ⟨fun a ha => by obtain ⟨k, hk, rfl⟩ := List.getElem_of_mem ha; exact h.1 k hk hk, List.pairwise_iff_getElem.2 fun k l hk hl hkl => h.2 k l hk hl hkl hl⟩
theorem UpA.succ {r : Rec} {i : Nat} (h : UpA r i) (hi : i < r.atts.length) (ho : attOk r.atts[i] r.slots = true) (hk : ∀ k (_ : k < r.atts.length), k < i → okA r.atts[k] r.atts[i]) : UpA r (i + 1) := by
  refine ⟨fun k hkl hki => ?_, fun k l hkl hll hlt hli => ?_⟩
  · rcases Nat.lt_succ_iff_lt_or_eq.1 hki with h' | rfl
    · exact h.1 k hkl h'
    · exact ho
  · rcases Nat.lt_succ_iff_lt_or_eq.1 hli with h' | rfl
    · exact h.2 k l hkl hll hlt h'
    · exact hk k hkl hlt
theorem UpD.succ {r : Rec} {i : Nat} (h : UpD r i) (hi : i < r.dels.length) (ho : delOk r.dels[i] r.slots) (hk : ∀ k (_ : k < r.dels.length), k < i → ltD r.dels[k] r.dels[i]) : UpD r (i + 1) := by
  refine ⟨fun k hkl hki => ?_, fun k l hkl hll hlt hli => ?_⟩
  · rcases Nat.lt_succ_iff_lt_or_eq.1 hki with h' | rfl
    · exact h.1 k hkl h'
    · exact ho
  · rcases Nat.lt_succ_iff_lt_or_eq.1 hli with h' | rfl
    · exact h.2 k l hkl hll hlt h'
    · exact hk k hkl hlt
theorem UpA.ltA {r : Rec} {p : Nat} (h : UpA r (p + 1)) (hp : p + 1 < r.atts.length) (hl : cmpA r.atts[p] r.atts[p + 1] < 0) : ∀ k (_ : k < r.atts.length), k < p + 1 → ltA r.atts[k] r.atts[p + 1] := by
  intro k hk hkp
  have h1 := (cmpA_lt _ _).1 hl
  rcases Nat.lt_succ_iff_lt_or_eq.1 hkp with h' | rfl
  · exact ltA_trans (h.2 k p hk (by omega) h' (by omega)).1 h1
  · exact h1
theorem not_order {r : Rec} (h : ¬ InOrder r) : check r = 1 := by
  have : ¬ check r = 0 := fun e => h ((check_iff r).1 e)
  unfold check at this ⊢
  split <;> simp_all
theorem bad_att {r : Rec} (i : Nat) (hi : i < r.atts.length) (h : attOk r.atts[i] r.slots = false) : check r = 1 :=
  not_order fun ho => by have := ho.atts.1 _ (List.getElem_mem hi); rw [h] at this; cases this
theorem bad_pair {r : Rec} (i j : Nat) (hi : i < r.atts.length) (hj : j < i) (h : ¬ okA r.atts[j] r.atts[i]) : check r = 1 :=
  not_order fun ho => h (List.pairwise_iff_getElem.1 ho.atts.2 j i (by omega) hi hj)
theorem bad_del {r : Rec} (i : Nat) (hi : i < r.dels.length) (h : ¬ delOk r.dels[i] r.slots) : check r = 1 :=
  not_order fun ho => h (ho.dels.1 _ (List.getElem_mem hi))
theorem bad_dpair {r : Rec} (i j : Nat) (hi : i < r.dels.length) (hj : j < i) (h : ¬ ltD r.dels[j] r.dels[i]) : check r = 1 :=
  not_order fun ho => h (List.pairwise_iff_getElem.1 ho.dels.2 j i (by omega) hi hj)
def KInv1 (r : Rec) (m : Nat) (st : St) : Prop := ∃ b1 i, KI r st b1 ∧ m + i = r.atts.length ∧ st.sl 3 = .c (.int .i64 (i : Nat)) ∧ UpA r i
def KEnd1 (r : Rec) (st : St) : Prop := ∃ b1, KI r st b1 ∧ UpA r r.atts.length
def KInv2 (r : Rec) (i : Nat) (b4 : Nat) (a : Att) (m : Nat) (st : St) : Prop := ∃ (b1 : Nat) (j : Int), KI r st b1 ∧ st.sl 4 = .c (.box 4 b4 0) ∧ st.bx 4 = some (b4, attC a) ∧ st.sl 3 = .c (.int .i64 (i : Nat)) ∧ st.sl 5 = .c (.int .i64 j) ∧ (m : Int) = j + 1 ∧ j < i ∧ ∀ k (_ : k < r.atts.length), j < (k : Int) → k < i → r.atts[k].frm ≠ a.frm
def KEnd2 (r : Rec) (i : Nat) (a : Att) (st : St) : Prop := ∃ b1, KI r st b1 ∧ st.sl 3 = .c (.int .i64 (i : Nat)) ∧ ∀ k (_ : k < r.atts.length), k < i → ¬ (r.atts[k].slot = a.slot ∧ r.atts[k].frm = a.frm)
def KInv3 (r : Rec) (m : Nat) (st : St) : Prop := ∃ b1 i, KI r st b1 ∧ m + i = r.dels.length ∧ st.sl 6 = .c (.int .i64 (i : Nat)) ∧ UpD r i
theorem ltD_trans {a b c : Del} (h1 : ltD a b) (h2 : ltD b c) : ltD a c := by
  unfold ltD at *
  omega
theorem checkR_does (r : Rec) : Does Try.prog 19 [.agg (recC r)] (.c (.int .i64 (check r))) := by
  refine Does.of_body Try.func19 rfl (by kernel_rfl) rfl rfl (by simp) ?_
  intro E
  have i0 := in0_does r.slots 4096 4097 (by omega)
  have hck := check_iff r
  simp only [recC]
  cases g1 : belowB r.slots 4097
  case false =>
    rw [not_order (r := r) fun h => by
      have := h.s0; have := h.s1
      simp [belowB] at g1; omega]
    repeat (first
      | (refine Tri.seq fun K hK => ?_)
      | (refine Tri.region ?_; simp [upd, g1])
      | (refine Tri.draw (by kernel_rfl) (by decide +kernel) ?_; simp [upd, g1])
      | (refine Tri.cond_true ?_ ?_; (focus simp [upd, g1]; done))
      | (refine Tri.cond_false ?_ ?_; (focus simp [upd, g1]; done))
      | (refine Tri.skip ?_; simp only [thenS, blockS])
      | (refine Tri.block_seq ?_)
      | (refine Tri.block_region ?_)
      | (refine Tri.block_cond ?_)
      | ((with_reducible refine CallK.pure (i0) (Wks.refl _) ?_); simp [upd, g1])
      | (refine Tri.exit ?_; simp [upd, g1]; first | (rename ∀ st, Tri _ _ _ st _ → _ => hK; first | (apply hK; clear hK) | (clear hK; rename ∀ st, Tri _ _ _ st _ → _ => hK; first | (apply hK; clear hK) | (clear hK; rename ∀ st, Tri _ _ _ st _ → _ => hK; first | (apply hK; clear hK) | (clear hK; rename ∀ st, Tri _ _ _ st _ → _ => hK; first | (apply hK; clear hK) | (clear hK; rename ∀ st, Tri _ _ _ st _ → _ => hK; first | (apply hK; clear hK) | (clear hK; rename ∀ st, Tri _ _ _ st _ → _ => hK; apply hK; clear hK)))))) | skip)
      | (intro β)
      | (rename ∀ st, Tri _ _ _ st _ → _ => hK; apply hK; clear hK))
    refine Tri.ret ⟨_, rfl, ?_⟩
    simp [upd]
    exact Wk.refl _
  by_cases g2 : (65536 : Int) < (r.atts.length : Int)
  · rw [not_order (r := r) fun h => by have := h.al; omega]
    repeat (first
      | (refine Tri.seq fun K hK => ?_)
      | (refine Tri.region ?_; simp [upd, g1, g2])
      | (refine Tri.draw (by kernel_rfl) (by decide +kernel) ?_; simp [upd, g1, g2])
      | (refine Tri.cond_true ?_ ?_; (focus simp [upd, g1, g2]; done))
      | (refine Tri.cond_false ?_ ?_; (focus simp [upd, g1, g2]; done))
      | (refine Tri.skip ?_; simp only [thenS, blockS])
      | (refine Tri.block_seq ?_)
      | (refine Tri.block_region ?_)
      | (refine Tri.block_cond ?_)
      | ((with_reducible refine CallK.pure (i0) (Wks.refl _) ?_); simp [upd, g1, g2])
      | (refine Tri.exit ?_; simp [upd, g1, g2]; first | (rename ∀ st, Tri _ _ _ st _ → _ => hK; first | (apply hK; clear hK) | (clear hK; rename ∀ st, Tri _ _ _ st _ → _ => hK; first | (apply hK; clear hK) | (clear hK; rename ∀ st, Tri _ _ _ st _ → _ => hK; first | (apply hK; clear hK) | (clear hK; rename ∀ st, Tri _ _ _ st _ → _ => hK; first | (apply hK; clear hK) | (clear hK; rename ∀ st, Tri _ _ _ st _ → _ => hK; first | (apply hK; clear hK) | (clear hK; rename ∀ st, Tri _ _ _ st _ → _ => hK; apply hK; clear hK)))))) | skip)
      | (intro β)
      | (rename ∀ st, Tri _ _ _ st _ → _ => hK; apply hK; clear hK))
    refine Tri.ret ⟨_, rfl, ?_⟩
    simp [upd]
    exact Wk.refl _
  by_cases g3 : (65536 : Int) < (r.dels.length : Int)
  · rw [not_order (r := r) fun h => by have := h.dl; omega]
    repeat (first
      | (refine Tri.seq fun K hK => ?_)
      | (refine Tri.region ?_; simp [upd, g1, g2, g3])
      | (refine Tri.draw (by kernel_rfl) (by decide +kernel) ?_; simp [upd, g1, g2, g3])
      | (refine Tri.cond_true ?_ ?_; (focus simp [upd, g1, g2, g3]; done))
      | (refine Tri.cond_false ?_ ?_; (focus simp [upd, g1, g2, g3]; done))
      | (refine Tri.skip ?_; simp only [thenS, blockS])
      | (refine Tri.block_seq ?_)
      | (refine Tri.block_region ?_)
      | (refine Tri.block_cond ?_)
      | ((with_reducible refine CallK.pure (i0) (Wks.refl _) ?_); simp [upd, g1, g2, g3])
      | (refine Tri.exit ?_; simp [upd, g1, g2, g3]; first | (rename ∀ st, Tri _ _ _ st _ → _ => hK; first | (apply hK; clear hK) | (clear hK; rename ∀ st, Tri _ _ _ st _ → _ => hK; first | (apply hK; clear hK) | (clear hK; rename ∀ st, Tri _ _ _ st _ → _ => hK; first | (apply hK; clear hK) | (clear hK; rename ∀ st, Tri _ _ _ st _ → _ => hK; first | (apply hK; clear hK) | (clear hK; rename ∀ st, Tri _ _ _ st _ → _ => hK; first | (apply hK; clear hK) | (clear hK; rename ∀ st, Tri _ _ _ st _ → _ => hK; apply hK; clear hK)))))) | skip)
      | (intro β)
      | (rename ∀ st, Tri _ _ _ st _ → _ => hK; apply hK; clear hK))
    refine Tri.ret ⟨_, rfl, ?_⟩
    simp [upd]
    exact Wk.refl _
  have hs : 0 ≤ r.slots ∧ r.slots < 4097 := by simpa [belowB] using g1
  repeat (first
    | (refine Tri.seq fun K hK => ?_)
    | (refine Tri.region ?_; simp [upd, g1, g2, g3])
    | (refine Tri.draw (by kernel_rfl) (by decide +kernel) ?_; simp [upd, g1, g2, g3])
    | (refine Tri.cond_true ?_ ?_; (focus simp [upd, g1, g2, g3]; done))
    | (refine Tri.cond_false ?_ ?_; (focus simp [upd, g1, g2, g3]; done))
    | (refine Tri.skip ?_; simp only [thenS, blockS])
    | (refine Tri.block_seq ?_)
    | (refine Tri.block_region ?_)
    | (refine Tri.block_cond ?_)
    | ((with_reducible refine CallK.pure (i0) (Wks.refl _) ?_); simp [upd, g1, g2, g3])
    | (refine Tri.exit ?_; simp [upd, g1, g2, g3]; first | (rename ∀ st, Tri _ _ _ st _ → _ => hK; first | (apply hK; clear hK) | (clear hK; rename ∀ st, Tri _ _ _ st _ → _ => hK; first | (apply hK; clear hK) | (clear hK; rename ∀ st, Tri _ _ _ st _ → _ => hK; first | (apply hK; clear hK) | (clear hK; rename ∀ st, Tri _ _ _ st _ → _ => hK; first | (apply hK; clear hK) | (clear hK; rename ∀ st, Tri _ _ _ st _ → _ => hK; first | (apply hK; clear hK) | (clear hK; rename ∀ st, Tri _ _ _ st _ → _ => hK; apply hK; clear hK)))))) | skip)
    | (intro β)
    | (rename ∀ st, Tri _ _ _ st _ → _ => hK; apply hK; clear hK))
  rename ∀ st, Tri _ _ _ st _ → _ => hK
  have fin := fun (st : St) (h : KEnd1 r st) => hK st ?tail
  case tail =>
    obtain ⟨b1, ⟨hn, s1, x1⟩, hA⟩ := h
    clear hK
    repeat (first
      | (refine Tri.seq fun K hK => ?_)
      | (refine Tri.region ?_; simp [upd, hn, s1, x1])
      | (refine Tri.draw (by kernel_rfl) (by decide +kernel) ?_; simp [upd, hn, s1, x1])
      | (refine Tri.cond_true ?_ ?_; (focus simp [upd, hn, s1, x1]; done))
      | (refine Tri.cond_false ?_ ?_; (focus simp [upd, hn, s1, x1]; done))
      | (refine Tri.skip ?_; simp only [thenS, blockS])
      | (refine Tri.block_seq ?_)
      | (refine Tri.block_region ?_)
      | (refine Tri.block_cond ?_)
      | (refine Tri.exit ?_; simp [upd, hn, s1, x1]; first | (rename ∀ st, Tri _ _ _ st _ → _ => hK; first | (apply hK; clear hK) | (clear hK; rename ∀ st, Tri _ _ _ st _ → _ => hK; first | (apply hK; clear hK) | (clear hK; rename ∀ st, Tri _ _ _ st _ → _ => hK; first | (apply hK; clear hK) | (clear hK; rename ∀ st, Tri _ _ _ st _ → _ => hK; first | (apply hK; clear hK) | (clear hK; rename ∀ st, Tri _ _ _ st _ → _ => hK; first | (apply hK; clear hK) | (clear hK; rename ∀ st, Tri _ _ _ st _ → _ => hK; apply hK; clear hK)))))) | skip)
      | (intro β)
      | (rename ∀ st, Tri _ _ _ st _ → _ => hK; apply hK; clear hK))
    rename ∀ st, Tri _ _ _ st _ → _ => hK
    have fin3 := fun (st : St) (h : st.n = 152 ∧ UpD r r.dels.length) => hK st ?tail
    case tail =>
      obtain ⟨hn, hD⟩ := h
      have ho : check r = 0 := hck.2 ⟨hs.1, by omega, by omega, by omega, hA.all, hD.all⟩
      rw [ho]
      repeat (first
        | (refine Tri.seq fun K hK => ?_)
        | (refine Tri.region ?_; simp [upd, hn])
        | (refine Tri.draw (by kernel_rfl) (by decide +kernel) ?_; simp [upd, hn])
        | (refine Tri.cond_true ?_ ?_; (focus simp [upd, hn]; done))
        | (refine Tri.cond_false ?_ ?_; (focus simp [upd, hn]; done))
        | (refine Tri.skip ?_; simp only [thenS, blockS])
        | (refine Tri.block_seq ?_)
        | (refine Tri.block_region ?_)
        | (refine Tri.block_cond ?_)
        | (refine Tri.exit ?_; simp [upd, hn]; first | (rename ∀ st, Tri _ _ _ st _ → _ => hK; first | (apply hK; clear hK) | (clear hK; rename ∀ st, Tri _ _ _ st _ → _ => hK; first | (apply hK; clear hK) | (clear hK; rename ∀ st, Tri _ _ _ st _ → _ => hK; first | (apply hK; clear hK) | (clear hK; rename ∀ st, Tri _ _ _ st _ → _ => hK; first | (apply hK; clear hK) | (clear hK; rename ∀ st, Tri _ _ _ st _ → _ => hK; first | (apply hK; clear hK) | (clear hK; rename ∀ st, Tri _ _ _ st _ → _ => hK; apply hK; clear hK)))))) | skip)
        | (intro β)
        | (rename ∀ st, Tri _ _ _ st _ → _ => hK; apply hK; clear hK))
      refine Tri.ret ⟨_, rfl, ?_⟩
      simp [upd]
      exact Wk.refl _
    clear hK
    refine Tri.block (Tri.loop (KInv3 r) r.dels.length ?_ ?_)
    · exact ⟨b1, 0, ⟨rfl, by simp [upd, s1], by simpa using x1⟩, rfl, by simp [upd], ⟨fun k _ h => by omega, fun k l _ _ _ h => by omega⟩⟩
    · clear hn s1 x1
      rintro m st ⟨b1, i, ⟨hn, s1, x1⟩, hm, s6, hP⟩
      by_cases hi : i < r.dels.length
      case neg =>
        have : i = r.dels.length := by omega
        subst this
        repeat (first
          | (refine Tri.seq fun K hK => ?_)
          | (refine Tri.region ?_; simp [upd, hn, s1, x1, s6])
          | (refine Tri.draw (by kernel_rfl) (by decide +kernel) ?_; simp [upd, hn, s1, x1, s6])
          | (refine Tri.cond_true ?_ ?_; (focus simp [upd, hn, s1, x1, s6]; done))
          | (refine Tri.cond_false ?_ ?_; (focus simp [upd, hn, s1, x1, s6]; done))
          | (refine Tri.skip ?_; simp only [thenS, blockS])
          | (refine Tri.block_seq ?_)
          | (refine Tri.block_region ?_)
          | (refine Tri.block_cond ?_)
          | (refine Tri.exit ?_; simp [upd, hn, s1, x1, s6]; first | (rename ∀ st, Tri _ _ _ st _ → _ => hK; first | (apply hK; clear hK) | (clear hK; rename ∀ st, Tri _ _ _ st _ → _ => hK; first | (apply hK; clear hK) | (clear hK; rename ∀ st, Tri _ _ _ st _ → _ => hK; first | (apply hK; clear hK) | (clear hK; rename ∀ st, Tri _ _ _ st _ → _ => hK; first | (apply hK; clear hK) | (clear hK; rename ∀ st, Tri _ _ _ st _ → _ => hK; first | (apply hK; clear hK) | (clear hK; rename ∀ st, Tri _ _ _ st _ → _ => hK; apply hK; clear hK)))))) | skip)
          | (intro β)
          | (rename ∀ st, Tri _ _ _ st _ → _ => hK; apply hK; clear hK))
        apply fin3
        exact ⟨rfl, hP⟩
      have hw1 : IntKind.i64.wrap ((i : Int) + 1) = (i : Int) + 1 := wrap_i64 (by omega) (by omega)
      have hws : IntKind.i64.wrap (r.slots - 1) = r.slots - 1 := wrap_i64 (by omega) (by omega)
      have j1 := in0_does r.dels[i].slot (r.slots - 1) r.slots (by omega)
      have j2 := in0_does r.dels[i].flow 255 256 (by omega)
      have j3 := in0_does r.dels[i].frame 1048575 1048576 (by omega)
      have hok : delOk r.dels[i] r.slots ↔ belowB r.dels[i].slot r.slots = true ∧ belowB r.dels[i].flow 256 = true ∧ belowB r.dels[i].frame 1048576 = true := by
        simp only [delOk, belowB, decide_eq_true_eq]
        omega
      cases c1 : belowB r.dels[i].slot r.slots
      case false =>
        rw [bad_del i hi (fun h => by have := (hok.1 h).1; rw [c1] at this; cases this)]
        repeat (first
          | (refine Tri.seq fun K hK => ?_)
          | (refine Tri.region ?_; simp [upd, hn, s1, x1, s6, hi, hws, c1])
          | (refine Tri.draw (by kernel_rfl) (by decide +kernel) ?_; simp [upd, hn, s1, x1, s6, hi, hws, c1])
          | (refine Tri.cond_true ?_ ?_; (focus simp [upd, hn, s1, x1, s6, hi, hws, c1]; done))
          | (refine Tri.cond_false ?_ ?_; (focus simp [upd, hn, s1, x1, s6, hi, hws, c1]; done))
          | (refine Tri.skip ?_; simp only [thenS, blockS])
          | (refine Tri.block_seq ?_)
          | (refine Tri.block_region ?_)
          | (refine Tri.block_cond ?_)
          | ((with_reducible refine CallK.pure (j1) (Wks.refl _) ?_); simp [upd, hn, s1, x1, s6, hi, hws, c1])
          | ((with_reducible refine CallK.pure (j2) (Wks.refl _) ?_); simp [upd, hn, s1, x1, s6, hi, hws, c1])
          | ((with_reducible refine CallK.pure (j3) (Wks.refl _) ?_); simp [upd, hn, s1, x1, s6, hi, hws, c1])
          | (refine Tri.exit ?_; simp [upd, hn, s1, x1, s6, hi, hws, c1]; first | (rename ∀ st, Tri _ _ _ st _ → _ => hK; first | (apply hK; clear hK) | (clear hK; rename ∀ st, Tri _ _ _ st _ → _ => hK; first | (apply hK; clear hK) | (clear hK; rename ∀ st, Tri _ _ _ st _ → _ => hK; first | (apply hK; clear hK) | (clear hK; rename ∀ st, Tri _ _ _ st _ → _ => hK; first | (apply hK; clear hK) | (clear hK; rename ∀ st, Tri _ _ _ st _ → _ => hK; first | (apply hK; clear hK) | (clear hK; rename ∀ st, Tri _ _ _ st _ → _ => hK; apply hK; clear hK)))))) | skip)
          | (intro β)
          | (rename ∀ st, Tri _ _ _ st _ → _ => hK; apply hK; clear hK))
        refine Tri.ret ⟨_, rfl, ?_⟩
        simp [upd]
        exact Wk.refl _
      cases c2 : belowB r.dels[i].flow 256
      case false =>
        rw [bad_del i hi (fun h => by have := (hok.1 h).2.1; rw [c2] at this; cases this)]
        repeat (first
          | (refine Tri.seq fun K hK => ?_)
          | (refine Tri.region ?_; simp [upd, hn, s1, x1, s6, hi, hws, c1, c2])
          | (refine Tri.draw (by kernel_rfl) (by decide +kernel) ?_; simp [upd, hn, s1, x1, s6, hi, hws, c1, c2])
          | (refine Tri.cond_true ?_ ?_; (focus simp [upd, hn, s1, x1, s6, hi, hws, c1, c2]; done))
          | (refine Tri.cond_false ?_ ?_; (focus simp [upd, hn, s1, x1, s6, hi, hws, c1, c2]; done))
          | (refine Tri.skip ?_; simp only [thenS, blockS])
          | (refine Tri.block_seq ?_)
          | (refine Tri.block_region ?_)
          | (refine Tri.block_cond ?_)
          | ((with_reducible refine CallK.pure (j1) (Wks.refl _) ?_); simp [upd, hn, s1, x1, s6, hi, hws, c1, c2])
          | ((with_reducible refine CallK.pure (j2) (Wks.refl _) ?_); simp [upd, hn, s1, x1, s6, hi, hws, c1, c2])
          | ((with_reducible refine CallK.pure (j3) (Wks.refl _) ?_); simp [upd, hn, s1, x1, s6, hi, hws, c1, c2])
          | (refine Tri.exit ?_; simp [upd, hn, s1, x1, s6, hi, hws, c1, c2]; first | (rename ∀ st, Tri _ _ _ st _ → _ => hK; first | (apply hK; clear hK) | (clear hK; rename ∀ st, Tri _ _ _ st _ → _ => hK; first | (apply hK; clear hK) | (clear hK; rename ∀ st, Tri _ _ _ st _ → _ => hK; first | (apply hK; clear hK) | (clear hK; rename ∀ st, Tri _ _ _ st _ → _ => hK; first | (apply hK; clear hK) | (clear hK; rename ∀ st, Tri _ _ _ st _ → _ => hK; first | (apply hK; clear hK) | (clear hK; rename ∀ st, Tri _ _ _ st _ → _ => hK; apply hK; clear hK)))))) | skip)
          | (intro β)
          | (rename ∀ st, Tri _ _ _ st _ → _ => hK; apply hK; clear hK))
        refine Tri.ret ⟨_, rfl, ?_⟩
        simp [upd]
        exact Wk.refl _
      cases c3 : belowB r.dels[i].frame 1048576
      case false =>
        rw [bad_del i hi (fun h => by have := (hok.1 h).2.2; rw [c3] at this; cases this)]
        repeat (first
          | (refine Tri.seq fun K hK => ?_)
          | (refine Tri.region ?_; simp [upd, hn, s1, x1, s6, hi, hws, c1, c2, c3])
          | (refine Tri.draw (by kernel_rfl) (by decide +kernel) ?_; simp [upd, hn, s1, x1, s6, hi, hws, c1, c2, c3])
          | (refine Tri.cond_true ?_ ?_; (focus simp [upd, hn, s1, x1, s6, hi, hws, c1, c2, c3]; done))
          | (refine Tri.cond_false ?_ ?_; (focus simp [upd, hn, s1, x1, s6, hi, hws, c1, c2, c3]; done))
          | (refine Tri.skip ?_; simp only [thenS, blockS])
          | (refine Tri.block_seq ?_)
          | (refine Tri.block_region ?_)
          | (refine Tri.block_cond ?_)
          | ((with_reducible refine CallK.pure (j1) (Wks.refl _) ?_); simp [upd, hn, s1, x1, s6, hi, hws, c1, c2, c3])
          | ((with_reducible refine CallK.pure (j2) (Wks.refl _) ?_); simp [upd, hn, s1, x1, s6, hi, hws, c1, c2, c3])
          | ((with_reducible refine CallK.pure (j3) (Wks.refl _) ?_); simp [upd, hn, s1, x1, s6, hi, hws, c1, c2, c3])
          | (refine Tri.exit ?_; simp [upd, hn, s1, x1, s6, hi, hws, c1, c2, c3]; first | (rename ∀ st, Tri _ _ _ st _ → _ => hK; first | (apply hK; clear hK) | (clear hK; rename ∀ st, Tri _ _ _ st _ → _ => hK; first | (apply hK; clear hK) | (clear hK; rename ∀ st, Tri _ _ _ st _ → _ => hK; first | (apply hK; clear hK) | (clear hK; rename ∀ st, Tri _ _ _ st _ → _ => hK; first | (apply hK; clear hK) | (clear hK; rename ∀ st, Tri _ _ _ st _ → _ => hK; first | (apply hK; clear hK) | (clear hK; rename ∀ st, Tri _ _ _ st _ → _ => hK; apply hK; clear hK)))))) | skip)
          | (intro β)
          | (rename ∀ st, Tri _ _ _ st _ → _ => hK; apply hK; clear hK))
        refine Tri.ret ⟨_, rfl, ?_⟩
        simp [upd]
        exact Wk.refl _
      have hok := hok.2 ⟨c1, c2, c3⟩
      by_cases hi0 : 0 < i
      case neg =>
        repeat (first
          | (refine Tri.seq fun K hK => ?_)
          | (refine Tri.region ?_; simp [upd, hn, s1, x1, s6, hi, hi0, hws, c1, c2, c3, hw1])
          | (refine Tri.draw (by kernel_rfl) (by decide +kernel) ?_; simp [upd, hn, s1, x1, s6, hi, hi0, hws, c1, c2, c3, hw1])
          | (refine Tri.cond_true ?_ ?_; (focus simp [upd, hn, s1, x1, s6, hi, hi0, hws, c1, c2, c3, hw1]; done))
          | (refine Tri.cond_false ?_ ?_; (focus simp [upd, hn, s1, x1, s6, hi, hi0, hws, c1, c2, c3, hw1]; done))
          | (refine Tri.skip ?_; simp only [thenS, blockS])
          | (refine Tri.block_seq ?_)
          | (refine Tri.block_region ?_)
          | (refine Tri.block_cond ?_)
          | ((with_reducible refine CallK.pure (j1) (Wks.refl _) ?_); simp [upd, hn, s1, x1, s6, hi, hi0, hws, c1, c2, c3, hw1])
          | ((with_reducible refine CallK.pure (j2) (Wks.refl _) ?_); simp [upd, hn, s1, x1, s6, hi, hi0, hws, c1, c2, c3, hw1])
          | ((with_reducible refine CallK.pure (j3) (Wks.refl _) ?_); simp [upd, hn, s1, x1, s6, hi, hi0, hws, c1, c2, c3, hw1])
          | (refine Tri.exit ?_; simp [upd, hn, s1, x1, s6, hi, hi0, hws, c1, c2, c3, hw1]; first | (rename ∀ st, Tri _ _ _ st _ → _ => hK; first | (apply hK; clear hK) | (clear hK; rename ∀ st, Tri _ _ _ st _ → _ => hK; first | (apply hK; clear hK) | (clear hK; rename ∀ st, Tri _ _ _ st _ → _ => hK; first | (apply hK; clear hK) | (clear hK; rename ∀ st, Tri _ _ _ st _ → _ => hK; first | (apply hK; clear hK) | (clear hK; rename ∀ st, Tri _ _ _ st _ → _ => hK; first | (apply hK; clear hK) | (clear hK; rename ∀ st, Tri _ _ _ st _ → _ => hK; apply hK; clear hK)))))) | skip)
          | (intro β)
          | (rename ∀ st, Tri _ _ _ st _ → _ => hK; apply hK; clear hK))
        exact ⟨m - 1, by omega, b1, i + 1, ⟨rfl, by simp [upd, s1], by simpa using x1⟩, by omega, by simp [upd], hP.succ hi hok fun k hk hki => by omega⟩
      obtain ⟨p, hp⟩ : ∃ p, p = i - 1 := ⟨i - 1, rfl⟩
      have hpl : p < r.dels.length := by omega
      have hwp : IntKind.i64.wrap ((i : Int) - 1) = (p : Int) := by rw [wrap_i64 (by omega) (by omega)]; omega
      by_cases e1 : r.dels[i].slot < r.dels[p].slot
      · rw [bad_dpair i p hi (by omega) (fun h => by unfold ltD at h; omega)]
        repeat (first
          | (refine Tri.seq fun K hK => ?_)
          | (refine Tri.region ?_; simp [upd, hn, s1, x1, s6, hi, hi0, hws, c1, c2, c3, hw1, hwp, hpl, e1])
          | (refine Tri.draw (by kernel_rfl) (by decide +kernel) ?_; simp [upd, hn, s1, x1, s6, hi, hi0, hws, c1, c2, c3, hw1, hwp, hpl, e1])
          | (refine Tri.cond_true ?_ ?_; (focus simp [upd, hn, s1, x1, s6, hi, hi0, hws, c1, c2, c3, hw1, hwp, hpl, e1]; done))
          | (refine Tri.cond_false ?_ ?_; (focus simp [upd, hn, s1, x1, s6, hi, hi0, hws, c1, c2, c3, hw1, hwp, hpl, e1]; done))
          | (refine Tri.skip ?_; simp only [thenS, blockS])
          | (refine Tri.block_seq ?_)
          | (refine Tri.block_region ?_)
          | (refine Tri.block_cond ?_)
          | ((with_reducible refine CallK.pure (j1) (Wks.refl _) ?_); simp [upd, hn, s1, x1, s6, hi, hi0, hws, c1, c2, c3, hw1, hwp, hpl, e1])
          | ((with_reducible refine CallK.pure (j2) (Wks.refl _) ?_); simp [upd, hn, s1, x1, s6, hi, hi0, hws, c1, c2, c3, hw1, hwp, hpl, e1])
          | ((with_reducible refine CallK.pure (j3) (Wks.refl _) ?_); simp [upd, hn, s1, x1, s6, hi, hi0, hws, c1, c2, c3, hw1, hwp, hpl, e1])
          | (refine Tri.exit ?_; simp [upd, hn, s1, x1, s6, hi, hi0, hws, c1, c2, c3, hw1, hwp, hpl, e1]; first | (rename ∀ st, Tri _ _ _ st _ → _ => hK; first | (apply hK; clear hK) | (clear hK; rename ∀ st, Tri _ _ _ st _ → _ => hK; first | (apply hK; clear hK) | (clear hK; rename ∀ st, Tri _ _ _ st _ → _ => hK; first | (apply hK; clear hK) | (clear hK; rename ∀ st, Tri _ _ _ st _ → _ => hK; first | (apply hK; clear hK) | (clear hK; rename ∀ st, Tri _ _ _ st _ → _ => hK; first | (apply hK; clear hK) | (clear hK; rename ∀ st, Tri _ _ _ st _ → _ => hK; apply hK; clear hK)))))) | skip)
          | (intro β)
          | (rename ∀ st, Tri _ _ _ st _ → _ => hK; apply hK; clear hK))
        refine Tri.ret ⟨_, rfl, ?_⟩
        simp [upd]
        exact Wk.refl _
      cases e2 : (r.dels[i].slot == r.dels[p].slot)
      case false =>
        have hl : ltD r.dels[p] r.dels[i] := by
          simp only [beq_eq_false_iff_ne, ne_eq] at e2
          left; omega
        repeat (first
          | (refine Tri.seq fun K hK => ?_)
          | (refine Tri.region ?_; simp [upd, hn, s1, x1, s6, hi, hi0, hws, c1, c2, c3, hw1, hwp, hpl, e1, e2])
          | (refine Tri.draw (by kernel_rfl) (by decide +kernel) ?_; simp [upd, hn, s1, x1, s6, hi, hi0, hws, c1, c2, c3, hw1, hwp, hpl, e1, e2])
          | (refine Tri.cond_true ?_ ?_; (focus simp [upd, hn, s1, x1, s6, hi, hi0, hws, c1, c2, c3, hw1, hwp, hpl, e1, e2]; done))
          | (refine Tri.cond_false ?_ ?_; (focus simp [upd, hn, s1, x1, s6, hi, hi0, hws, c1, c2, c3, hw1, hwp, hpl, e1, e2]; done))
          | (refine Tri.skip ?_; simp only [thenS, blockS])
          | (refine Tri.block_seq ?_)
          | (refine Tri.block_region ?_)
          | (refine Tri.block_cond ?_)
          | ((with_reducible refine CallK.pure (j1) (Wks.refl _) ?_); simp [upd, hn, s1, x1, s6, hi, hi0, hws, c1, c2, c3, hw1, hwp, hpl, e1, e2])
          | ((with_reducible refine CallK.pure (j2) (Wks.refl _) ?_); simp [upd, hn, s1, x1, s6, hi, hi0, hws, c1, c2, c3, hw1, hwp, hpl, e1, e2])
          | ((with_reducible refine CallK.pure (j3) (Wks.refl _) ?_); simp [upd, hn, s1, x1, s6, hi, hi0, hws, c1, c2, c3, hw1, hwp, hpl, e1, e2])
          | (refine Tri.exit ?_; simp [upd, hn, s1, x1, s6, hi, hi0, hws, c1, c2, c3, hw1, hwp, hpl, e1, e2]; first | (rename ∀ st, Tri _ _ _ st _ → _ => hK; first | (apply hK; clear hK) | (clear hK; rename ∀ st, Tri _ _ _ st _ → _ => hK; first | (apply hK; clear hK) | (clear hK; rename ∀ st, Tri _ _ _ st _ → _ => hK; first | (apply hK; clear hK) | (clear hK; rename ∀ st, Tri _ _ _ st _ → _ => hK; first | (apply hK; clear hK) | (clear hK; rename ∀ st, Tri _ _ _ st _ → _ => hK; first | (apply hK; clear hK) | (clear hK; rename ∀ st, Tri _ _ _ st _ → _ => hK; apply hK; clear hK)))))) | skip)
          | (intro β)
          | (rename ∀ st, Tri _ _ _ st _ → _ => hK; apply hK; clear hK))
        exact ⟨m - 1, by omega, b1, i + 1, ⟨rfl, by simp [upd, s1], by simpa using x1⟩, by omega, by simp [upd], hP.succ hi hok fun k hk hki => by
          rcases Nat.lt_or_eq_of_le (show k ≤ p by omega) with h' | rfl
          · exact ltD_trans (hP.2 k p hk hpl h' (by omega)) hl
          · exact hl⟩
      by_cases e3 : r.dels[i].flow ≤ r.dels[p].flow
      · rw [bad_dpair i p hi (by omega) (fun h => by simp only [beq_iff_eq] at e2; unfold ltD at h; omega)]
        repeat (first
          | (refine Tri.seq fun K hK => ?_)
          | (refine Tri.region ?_; simp [upd, hn, s1, x1, s6, hi, hi0, hws, c1, c2, c3, hw1, hwp, hpl, e1, e2, e3])
          | (refine Tri.draw (by kernel_rfl) (by decide +kernel) ?_; simp [upd, hn, s1, x1, s6, hi, hi0, hws, c1, c2, c3, hw1, hwp, hpl, e1, e2, e3])
          | (refine Tri.cond_true ?_ ?_; (focus simp [upd, hn, s1, x1, s6, hi, hi0, hws, c1, c2, c3, hw1, hwp, hpl, e1, e2, e3]; done))
          | (refine Tri.cond_false ?_ ?_; (focus simp [upd, hn, s1, x1, s6, hi, hi0, hws, c1, c2, c3, hw1, hwp, hpl, e1, e2, e3]; done))
          | (refine Tri.skip ?_; simp only [thenS, blockS])
          | (refine Tri.block_seq ?_)
          | (refine Tri.block_region ?_)
          | (refine Tri.block_cond ?_)
          | ((with_reducible refine CallK.pure (j1) (Wks.refl _) ?_); simp [upd, hn, s1, x1, s6, hi, hi0, hws, c1, c2, c3, hw1, hwp, hpl, e1, e2, e3])
          | ((with_reducible refine CallK.pure (j2) (Wks.refl _) ?_); simp [upd, hn, s1, x1, s6, hi, hi0, hws, c1, c2, c3, hw1, hwp, hpl, e1, e2, e3])
          | ((with_reducible refine CallK.pure (j3) (Wks.refl _) ?_); simp [upd, hn, s1, x1, s6, hi, hi0, hws, c1, c2, c3, hw1, hwp, hpl, e1, e2, e3])
          | (refine Tri.exit ?_; simp [upd, hn, s1, x1, s6, hi, hi0, hws, c1, c2, c3, hw1, hwp, hpl, e1, e2, e3]; first | (rename ∀ st, Tri _ _ _ st _ → _ => hK; first | (apply hK; clear hK) | (clear hK; rename ∀ st, Tri _ _ _ st _ → _ => hK; first | (apply hK; clear hK) | (clear hK; rename ∀ st, Tri _ _ _ st _ → _ => hK; first | (apply hK; clear hK) | (clear hK; rename ∀ st, Tri _ _ _ st _ → _ => hK; first | (apply hK; clear hK) | (clear hK; rename ∀ st, Tri _ _ _ st _ → _ => hK; first | (apply hK; clear hK) | (clear hK; rename ∀ st, Tri _ _ _ st _ → _ => hK; apply hK; clear hK)))))) | skip)
          | (intro β)
          | (rename ∀ st, Tri _ _ _ st _ → _ => hK; apply hK; clear hK))
        refine Tri.ret ⟨_, rfl, ?_⟩
        simp [upd]
        exact Wk.refl _
      have hl : ltD r.dels[p] r.dels[i] := by
        simp only [beq_iff_eq] at e2
        right; omega
      repeat (first
        | (refine Tri.seq fun K hK => ?_)
        | (refine Tri.region ?_; simp [upd, hn, s1, x1, s6, hi, hi0, hws, c1, c2, c3, hw1, hwp, hpl, e1, e2, e3])
        | (refine Tri.draw (by kernel_rfl) (by decide +kernel) ?_; simp [upd, hn, s1, x1, s6, hi, hi0, hws, c1, c2, c3, hw1, hwp, hpl, e1, e2, e3])
        | (refine Tri.cond_true ?_ ?_; (focus simp [upd, hn, s1, x1, s6, hi, hi0, hws, c1, c2, c3, hw1, hwp, hpl, e1, e2, e3]; done))
        | (refine Tri.cond_false ?_ ?_; (focus simp [upd, hn, s1, x1, s6, hi, hi0, hws, c1, c2, c3, hw1, hwp, hpl, e1, e2, e3]; done))
        | (refine Tri.skip ?_; simp only [thenS, blockS])
        | (refine Tri.block_seq ?_)
        | (refine Tri.block_region ?_)
        | (refine Tri.block_cond ?_)
        | ((with_reducible refine CallK.pure (j1) (Wks.refl _) ?_); simp [upd, hn, s1, x1, s6, hi, hi0, hws, c1, c2, c3, hw1, hwp, hpl, e1, e2, e3])
        | ((with_reducible refine CallK.pure (j2) (Wks.refl _) ?_); simp [upd, hn, s1, x1, s6, hi, hi0, hws, c1, c2, c3, hw1, hwp, hpl, e1, e2, e3])
        | ((with_reducible refine CallK.pure (j3) (Wks.refl _) ?_); simp [upd, hn, s1, x1, s6, hi, hi0, hws, c1, c2, c3, hw1, hwp, hpl, e1, e2, e3])
        | (refine Tri.exit ?_; simp [upd, hn, s1, x1, s6, hi, hi0, hws, c1, c2, c3, hw1, hwp, hpl, e1, e2, e3]; first | (rename ∀ st, Tri _ _ _ st _ → _ => hK; first | (apply hK; clear hK) | (clear hK; rename ∀ st, Tri _ _ _ st _ → _ => hK; first | (apply hK; clear hK) | (clear hK; rename ∀ st, Tri _ _ _ st _ → _ => hK; first | (apply hK; clear hK) | (clear hK; rename ∀ st, Tri _ _ _ st _ → _ => hK; first | (apply hK; clear hK) | (clear hK; rename ∀ st, Tri _ _ _ st _ → _ => hK; first | (apply hK; clear hK) | (clear hK; rename ∀ st, Tri _ _ _ st _ → _ => hK; apply hK; clear hK)))))) | skip)
        | (intro β)
        | (rename ∀ st, Tri _ _ _ st _ → _ => hK; apply hK; clear hK))
      exact ⟨m - 1, by omega, b1, i + 1, ⟨rfl, by simp [upd, s1], by simpa using x1⟩, by omega, by simp [upd], hP.succ hi hok fun k hk hki => by
        rcases Nat.lt_or_eq_of_le (show k ≤ p by omega) with h' | rfl
        · exact ltD_trans (hP.2 k p hk hpl h' (by omega)) hl
        · exact hl⟩
  clear hK
  refine Tri.block (Tri.loop (KInv1 r) r.atts.length ?_ ?_)
  · exact ⟨_, 0, ⟨rfl, by simp [upd] <;> exact rfl, by simp [upd] <;> exact rfl⟩, rfl, by simp [upd], ⟨fun k _ h => by omega, fun k l _ _ _ h => by omega⟩⟩
  · rintro m st ⟨b1, i, ⟨hn, s1, x1⟩, hm, s3, hP⟩
    by_cases hi : i < r.atts.length
    case neg =>
      have : i = r.atts.length := by omega
      subst this
      repeat (first
        | (refine Tri.seq fun K hK => ?_)
        | (refine Tri.region ?_; simp [upd, hn, s1, x1, s3])
        | (refine Tri.draw (by kernel_rfl) (by decide +kernel) ?_; simp [upd, hn, s1, x1, s3])
        | (refine Tri.cond_true ?_ ?_; (focus simp [upd, hn, s1, x1, s3]; done))
        | (refine Tri.cond_false ?_ ?_; (focus simp [upd, hn, s1, x1, s3]; done))
        | (refine Tri.skip ?_; simp only [thenS, blockS])
        | (refine Tri.block_seq ?_)
        | (refine Tri.block_region ?_)
        | (refine Tri.block_cond ?_)
        | (refine Tri.exit ?_; simp [upd, hn, s1, x1, s3]; first | (rename ∀ st, Tri _ _ _ st _ → _ => hK; first | (apply hK; clear hK) | (clear hK; rename ∀ st, Tri _ _ _ st _ → _ => hK; first | (apply hK; clear hK) | (clear hK; rename ∀ st, Tri _ _ _ st _ → _ => hK; first | (apply hK; clear hK) | (clear hK; rename ∀ st, Tri _ _ _ st _ → _ => hK; first | (apply hK; clear hK) | (clear hK; rename ∀ st, Tri _ _ _ st _ → _ => hK; first | (apply hK; clear hK) | (clear hK; rename ∀ st, Tri _ _ _ st _ → _ => hK; apply hK; clear hK)))))) | skip)
        | (intro β)
        | (rename ∀ st, Tri _ _ _ st _ → _ => hK; apply hK; clear hK))
      apply fin
      exact ⟨b1, ⟨rfl, by simp [upd, s1], by simpa using x1⟩, hP⟩
    have l49 := attR_does r r.atts[i] hs.1 (by omega)
    simp only [recC] at l49
    have hw1 : IntKind.i64.wrap ((i : Int) + 1) = (i : Int) + 1 := wrap_i64 (by omega) (by omega)
    have hwm : IntKind.i64.wrap ((i : Int) - 1) = (i : Int) - 1 := wrap_i64 (by omega) (by omega)
    cases c1 : attOk r.atts[i] r.slots
    case false =>
      rw [bad_att i hi c1]
      repeat (first
        | (refine Tri.seq fun K hK => ?_)
        | (refine Tri.region ?_; simp [upd, hn, s1, x1, s3, hi, c1])
        | (refine Tri.draw (by kernel_rfl) (by decide +kernel) ?_; simp [upd, hn, s1, x1, s3, hi, c1])
        | (refine Tri.cond_true ?_ ?_; (focus simp [upd, hn, s1, x1, s3, hi, c1]; done))
        | (refine Tri.cond_false ?_ ?_; (focus simp [upd, hn, s1, x1, s3, hi, c1]; done))
        | (refine Tri.skip ?_; simp only [thenS, blockS])
        | (refine Tri.block_seq ?_)
        | (refine Tri.block_region ?_)
        | (refine Tri.block_cond ?_)
        | ((with_reducible refine CallK.pure (l49) (Wks.refl _) ?_); simp [upd, hn, s1, x1, s3, hi, c1])
        | (refine Tri.exit ?_; simp [upd, hn, s1, x1, s3, hi, c1]; first | (rename ∀ st, Tri _ _ _ st _ → _ => hK; first | (apply hK; clear hK) | (clear hK; rename ∀ st, Tri _ _ _ st _ → _ => hK; first | (apply hK; clear hK) | (clear hK; rename ∀ st, Tri _ _ _ st _ → _ => hK; first | (apply hK; clear hK) | (clear hK; rename ∀ st, Tri _ _ _ st _ → _ => hK; first | (apply hK; clear hK) | (clear hK; rename ∀ st, Tri _ _ _ st _ → _ => hK; first | (apply hK; clear hK) | (clear hK; rename ∀ st, Tri _ _ _ st _ → _ => hK; apply hK; clear hK)))))) | skip)
        | (intro β)
        | (rename ∀ st, Tri _ _ _ st _ → _ => hK; apply hK; clear hK))
      refine Tri.ret ⟨_, rfl, ?_⟩
      simp [upd]
      exact Wk.refl _
    by_cases hi0 : 0 < i
    case neg =>
      have hlt : ∀ k (_ : k < r.atts.length), k < i → ltA r.atts[k] r.atts[i] := fun k _ h => by omega
      repeat (first
        | (refine Tri.seq fun K hK => ?_)
        | (refine Tri.region ?_; simp [upd, hn, s1, x1, s3, hi, hi0, c1, hwm])
        | (refine Tri.draw (by kernel_rfl) (by decide +kernel) ?_; simp [upd, hn, s1, x1, s3, hi, hi0, c1, hwm])
        | (refine Tri.cond_true ?_ ?_; (focus simp [upd, hn, s1, x1, s3, hi, hi0, c1, hwm]; done))
        | (refine Tri.cond_false ?_ ?_; (focus simp [upd, hn, s1, x1, s3, hi, hi0, c1, hwm]; done))
        | (refine Tri.skip ?_; simp only [thenS, blockS])
        | (refine Tri.block_seq ?_)
        | (refine Tri.block_region ?_)
        | (refine Tri.block_cond ?_)
        | ((with_reducible refine CallK.pure (l49) (Wks.refl _) ?_); simp [upd, hn, s1, x1, s3, hi, hi0, c1, hwm])
        | (refine Tri.exit ?_; simp [upd, hn, s1, x1, s3, hi, hi0, c1, hwm]; first | (rename ∀ st, Tri _ _ _ st _ → _ => hK; first | (apply hK; clear hK) | (clear hK; rename ∀ st, Tri _ _ _ st _ → _ => hK; first | (apply hK; clear hK) | (clear hK; rename ∀ st, Tri _ _ _ st _ → _ => hK; first | (apply hK; clear hK) | (clear hK; rename ∀ st, Tri _ _ _ st _ → _ => hK; first | (apply hK; clear hK) | (clear hK; rename ∀ st, Tri _ _ _ st _ → _ => hK; first | (apply hK; clear hK) | (clear hK; rename ∀ st, Tri _ _ _ st _ → _ => hK; apply hK; clear hK)))))) | skip)
        | (intro β)
        | (rename ∀ st, Tri _ _ _ st _ → _ => hK; apply hK; clear hK))
      rename ∀ st, Tri _ _ _ st _ → _ => hK
      have fin2 := fun (st : St) (h : KEnd2 r i r.atts[i] st) => hK st ?tail
      case tail =>
        clear s3 s1 x1 hn hK
        obtain ⟨b1, ⟨hn, s1, x1⟩, s3, hno⟩ := h
        repeat (first
          | (refine Tri.seq fun K hK => ?_)
          | (refine Tri.region ?_; simp [upd, hn, s1, x1, s3, hw1])
          | (refine Tri.draw (by kernel_rfl) (by decide +kernel) ?_; simp [upd, hn, s1, x1, s3, hw1])
          | (refine Tri.cond_true ?_ ?_; (focus simp [upd, hn, s1, x1, s3, hw1]; done))
          | (refine Tri.cond_false ?_ ?_; (focus simp [upd, hn, s1, x1, s3, hw1]; done))
          | (refine Tri.skip ?_; simp only [thenS, blockS])
          | (refine Tri.block_seq ?_)
          | (refine Tri.block_region ?_)
          | (refine Tri.block_cond ?_)
          | (refine Tri.exit ?_; simp [upd, hn, s1, x1, s3, hw1]; first | (rename ∀ st, Tri _ _ _ st _ → _ => hK; first | (apply hK; clear hK) | (clear hK; rename ∀ st, Tri _ _ _ st _ → _ => hK; first | (apply hK; clear hK) | (clear hK; rename ∀ st, Tri _ _ _ st _ → _ => hK; first | (apply hK; clear hK) | (clear hK; rename ∀ st, Tri _ _ _ st _ → _ => hK; first | (apply hK; clear hK) | (clear hK; rename ∀ st, Tri _ _ _ st _ → _ => hK; first | (apply hK; clear hK) | (clear hK; rename ∀ st, Tri _ _ _ st _ → _ => hK; apply hK; clear hK)))))) | skip)
          | (intro β)
          | (rename ∀ st, Tri _ _ _ st _ → _ => hK; apply hK; clear hK))
        exact ⟨m - 1, by omega, b1, i + 1, ⟨rfl, by simp [upd, s1], by simpa using x1⟩, by omega, by simp [upd], hP.succ hi c1 fun k hk hki => ⟨hlt k hk hki, hno k hk hki⟩⟩
      clear hK
      refine Tri.block (Tri.loop (KInv2 r i β r.atts[i]) i ?_ ?_)
      · exact ⟨b1, (i : Int) - 1, ⟨rfl, by simp [upd, s1], by simp [x1]⟩, by simp [upd], by simp, by simp [upd, s3], by simp [upd, hwm] <;> omega, by omega, by omega, fun k hk h1 h2 => by omega⟩
      · clear hn s1 x1 s3
        rintro m2 st ⟨b1, j, ⟨hn, s1, x1⟩, s4, x4, s3, s5, hmj, hji, hno⟩
        by_cases hj0 : 0 ≤ j
        case neg =>
          repeat (first
            | (refine Tri.seq fun K hK => ?_)
            | (refine Tri.region ?_; simp [upd, hn, s1, x1, s4, x4, s3, s5, hj0])
            | (refine Tri.draw (by kernel_rfl) (by decide +kernel) ?_; simp [upd, hn, s1, x1, s4, x4, s3, s5, hj0])
            | (refine Tri.cond_true ?_ ?_; (focus simp [upd, hn, s1, x1, s4, x4, s3, s5, hj0]; done))
            | (refine Tri.cond_false ?_ ?_; (focus simp [upd, hn, s1, x1, s4, x4, s3, s5, hj0]; done))
            | (refine Tri.skip ?_; simp only [thenS, blockS])
            | (refine Tri.block_seq ?_)
            | (refine Tri.block_region ?_)
            | (refine Tri.block_cond ?_)
            | (refine Tri.exit ?_; simp [upd, hn, s1, x1, s4, x4, s3, s5, hj0]; first | (rename ∀ st, Tri _ _ _ st _ → _ => hK; first | (apply hK; clear hK) | (clear hK; rename ∀ st, Tri _ _ _ st _ → _ => hK; first | (apply hK; clear hK) | (clear hK; rename ∀ st, Tri _ _ _ st _ → _ => hK; first | (apply hK; clear hK) | (clear hK; rename ∀ st, Tri _ _ _ st _ → _ => hK; first | (apply hK; clear hK) | (clear hK; rename ∀ st, Tri _ _ _ st _ → _ => hK; first | (apply hK; clear hK) | (clear hK; rename ∀ st, Tri _ _ _ st _ → _ => hK; apply hK; clear hK)))))) | skip)
            | (intro β)
            | (rename ∀ st, Tri _ _ _ st _ → _ => hK; apply hK; clear hK))
          apply fin2
          exact ⟨b1, ⟨rfl, by simp [upd, s1], by simpa using x1⟩, by simp [upd, s3], fun k hk hki h => hno k hk (by omega) hki h.2⟩
        obtain ⟨j, rfl⟩ := Int.eq_ofNat_of_zero_le hj0
        have hjl : j < r.atts.length := by omega
        have hnw : IntKind.i64.wrap ((j : Int) - 1) = (j : Int) - 1 := wrap_i64 (by omega) (by omega)
        cases c3 : (r.atts[j].slot == r.atts[i].slot)
        case false =>
          repeat (first
            | (refine Tri.seq fun K hK => ?_)
            | (refine Tri.region ?_; simp [upd, hn, s1, x1, s4, x4, s3, s5, hj0, hjl, c3])
            | (refine Tri.draw (by kernel_rfl) (by decide +kernel) ?_; simp [upd, hn, s1, x1, s4, x4, s3, s5, hj0, hjl, c3])
            | (refine Tri.cond_true ?_ ?_; (focus simp [upd, hn, s1, x1, s4, x4, s3, s5, hj0, hjl, c3]; done))
            | (refine Tri.cond_false ?_ ?_; (focus simp [upd, hn, s1, x1, s4, x4, s3, s5, hj0, hjl, c3]; done))
            | (refine Tri.skip ?_; simp only [thenS, blockS])
            | (refine Tri.block_seq ?_)
            | (refine Tri.block_region ?_)
            | (refine Tri.block_cond ?_)
            | (refine Tri.exit ?_; simp [upd, hn, s1, x1, s4, x4, s3, s5, hj0, hjl, c3]; first | (rename ∀ st, Tri _ _ _ st _ → _ => hK; first | (apply hK; clear hK) | (clear hK; rename ∀ st, Tri _ _ _ st _ → _ => hK; first | (apply hK; clear hK) | (clear hK; rename ∀ st, Tri _ _ _ st _ → _ => hK; first | (apply hK; clear hK) | (clear hK; rename ∀ st, Tri _ _ _ st _ → _ => hK; first | (apply hK; clear hK) | (clear hK; rename ∀ st, Tri _ _ _ st _ → _ => hK; first | (apply hK; clear hK) | (clear hK; rename ∀ st, Tri _ _ _ st _ → _ => hK; apply hK; clear hK)))))) | skip)
            | (intro β)
            | (rename ∀ st, Tri _ _ _ st _ → _ => hK; apply hK; clear hK))
          apply fin2
          refine ⟨b1, ⟨rfl, by simp [upd, s1], by simpa using x1⟩, by simp [upd, s3], fun k hk hki h => ?_⟩
          rcases Nat.lt_or_ge j k with h' | h'
          · exact hno k hk (by omega) hki h.2
          · have h1 : r.atts[j].slot ≤ r.atts[i].slot := ltA_slot (hlt j hjl (by omega))
            have h2 : r.atts[k].slot ≤ r.atts[j].slot := by
              rcases Nat.lt_or_eq_of_le h' with h'' | rfl
              · exact ltA_slot (hP.2 k j hk hjl h'' (by omega)).1
              · exact Int.le_refl _
            simp only [beq_eq_false_iff_ne, ne_eq] at c3
            omega
        cases c4 : (r.atts[j].frm == r.atts[i].frm)
        case true =>
          rw [bad_pair i j hi (by omega) (fun h => h.2 ⟨by simpa using c3, by simpa using c4⟩)]
          repeat (first
            | (refine Tri.seq fun K hK => ?_)
            | (refine Tri.region ?_; simp [upd, hn, s1, x1, s4, x4, s3, s5, hj0, hjl, c3, c4])
            | (refine Tri.draw (by kernel_rfl) (by decide +kernel) ?_; simp [upd, hn, s1, x1, s4, x4, s3, s5, hj0, hjl, c3, c4])
            | (refine Tri.cond_true ?_ ?_; (focus simp [upd, hn, s1, x1, s4, x4, s3, s5, hj0, hjl, c3, c4]; done))
            | (refine Tri.cond_false ?_ ?_; (focus simp [upd, hn, s1, x1, s4, x4, s3, s5, hj0, hjl, c3, c4]; done))
            | (refine Tri.skip ?_; simp only [thenS, blockS])
            | (refine Tri.block_seq ?_)
            | (refine Tri.block_region ?_)
            | (refine Tri.block_cond ?_)
            | (refine Tri.exit ?_; simp [upd, hn, s1, x1, s4, x4, s3, s5, hj0, hjl, c3, c4]; first | (rename ∀ st, Tri _ _ _ st _ → _ => hK; first | (apply hK; clear hK) | (clear hK; rename ∀ st, Tri _ _ _ st _ → _ => hK; first | (apply hK; clear hK) | (clear hK; rename ∀ st, Tri _ _ _ st _ → _ => hK; first | (apply hK; clear hK) | (clear hK; rename ∀ st, Tri _ _ _ st _ → _ => hK; first | (apply hK; clear hK) | (clear hK; rename ∀ st, Tri _ _ _ st _ → _ => hK; first | (apply hK; clear hK) | (clear hK; rename ∀ st, Tri _ _ _ st _ → _ => hK; apply hK; clear hK)))))) | skip)
            | (intro β)
            | (rename ∀ st, Tri _ _ _ st _ → _ => hK; apply hK; clear hK))
          refine Tri.ret ⟨_, rfl, ?_⟩
          simp [upd]
          exact Wk.refl _
        repeat (first
          | (refine Tri.seq fun K hK => ?_)
          | (refine Tri.region ?_; simp [upd, hn, s1, x1, s4, x4, s3, s5, hj0, hjl, c3, c4, hnw])
          | (refine Tri.draw (by kernel_rfl) (by decide +kernel) ?_; simp [upd, hn, s1, x1, s4, x4, s3, s5, hj0, hjl, c3, c4, hnw])
          | (refine Tri.cond_true ?_ ?_; (focus simp [upd, hn, s1, x1, s4, x4, s3, s5, hj0, hjl, c3, c4, hnw]; done))
          | (refine Tri.cond_false ?_ ?_; (focus simp [upd, hn, s1, x1, s4, x4, s3, s5, hj0, hjl, c3, c4, hnw]; done))
          | (refine Tri.skip ?_; simp only [thenS, blockS])
          | (refine Tri.block_seq ?_)
          | (refine Tri.block_region ?_)
          | (refine Tri.block_cond ?_)
          | (refine Tri.exit ?_; simp [upd, hn, s1, x1, s4, x4, s3, s5, hj0, hjl, c3, c4, hnw]; first | (rename ∀ st, Tri _ _ _ st _ → _ => hK; first | (apply hK; clear hK) | (clear hK; rename ∀ st, Tri _ _ _ st _ → _ => hK; first | (apply hK; clear hK) | (clear hK; rename ∀ st, Tri _ _ _ st _ → _ => hK; first | (apply hK; clear hK) | (clear hK; rename ∀ st, Tri _ _ _ st _ → _ => hK; first | (apply hK; clear hK) | (clear hK; rename ∀ st, Tri _ _ _ st _ → _ => hK; first | (apply hK; clear hK) | (clear hK; rename ∀ st, Tri _ _ _ st _ → _ => hK; apply hK; clear hK)))))) | skip)
          | (intro β)
          | (rename ∀ st, Tri _ _ _ st _ → _ => hK; apply hK; clear hK))
        refine ⟨m2 - 1, by omega, b1, (j : Int) - 1, ⟨rfl, by simp [upd, s1], by simpa using x1⟩, by simp [upd, s4], by simpa using x4, by simp [upd, s3], by simp [upd], by omega, by omega, fun k hk h1 h2 => ?_⟩
        by_cases hkj : k = j
        · subst hkj; simpa using c4
        · exact hno k hk (by omega) h2
    obtain ⟨p, hp⟩ : ∃ p, p = i - 1 := ⟨i - 1, rfl⟩
    have hpl : p < r.atts.length := by omega
    have hwp : IntKind.i64.wrap ((i : Int) - 1) = (p : Int) := by rw [hwm]; omega
    have l50 := less_does r.atts[p] r.atts[i]
    cases c2 : decide (cmpA r.atts[p] r.atts[i] < 0)
    case false =>
      rw [bad_pair i p hi (by omega) (fun h => by have := (cmpA_lt _ _).2 h.1; simp at c2; omega)]
      rw [c2] at l50
      repeat (first
        | (refine Tri.seq fun K hK => ?_)
        | (refine Tri.region ?_; simp [upd, hn, s1, x1, s3, hi, hi0, c1, hwp, hpl])
        | (refine Tri.draw (by kernel_rfl) (by decide +kernel) ?_; simp [upd, hn, s1, x1, s3, hi, hi0, c1, hwp, hpl])
        | (refine Tri.cond_true ?_ ?_; (focus simp [upd, hn, s1, x1, s3, hi, hi0, c1, hwp, hpl]; done))
        | (refine Tri.cond_false ?_ ?_; (focus simp [upd, hn, s1, x1, s3, hi, hi0, c1, hwp, hpl]; done))
        | (refine Tri.skip ?_; simp only [thenS, blockS])
        | (refine Tri.block_seq ?_)
        | (refine Tri.block_region ?_)
        | (refine Tri.block_cond ?_)
        | ((with_reducible refine CallK.pure (l49) (Wks.refl _) ?_); simp [upd, hn, s1, x1, s3, hi, hi0, c1, hwp, hpl])
        | ((with_reducible refine CallK.pure (l50) (Wks.refl _) ?_); simp [upd, hn, s1, x1, s3, hi, hi0, c1, hwp, hpl])
        | (refine Tri.exit ?_; simp [upd, hn, s1, x1, s3, hi, hi0, c1, hwp, hpl]; first | (rename ∀ st, Tri _ _ _ st _ → _ => hK; first | (apply hK; clear hK) | (clear hK; rename ∀ st, Tri _ _ _ st _ → _ => hK; first | (apply hK; clear hK) | (clear hK; rename ∀ st, Tri _ _ _ st _ → _ => hK; first | (apply hK; clear hK) | (clear hK; rename ∀ st, Tri _ _ _ st _ → _ => hK; first | (apply hK; clear hK) | (clear hK; rename ∀ st, Tri _ _ _ st _ → _ => hK; first | (apply hK; clear hK) | (clear hK; rename ∀ st, Tri _ _ _ st _ → _ => hK; apply hK; clear hK)))))) | skip)
        | (intro β)
        | (rename ∀ st, Tri _ _ _ st _ → _ => hK; apply hK; clear hK))
      refine Tri.ret ⟨_, rfl, ?_⟩
      simp [upd]
      exact Wk.refl _
    have hlt : ∀ k (_ : k < r.atts.length), k < i → ltA r.atts[k] r.atts[i] := by
      have hip : i = p + 1 := by omega
      subst hip
      exact hP.ltA hi (by simpa using c2)
    rw [c2] at l50
    repeat (first
      | (refine Tri.seq fun K hK => ?_)
      | (refine Tri.region ?_; simp [upd, hn, s1, x1, s3, hi, hi0, c1, hwp, hpl])
      | (refine Tri.draw (by kernel_rfl) (by decide +kernel) ?_; simp [upd, hn, s1, x1, s3, hi, hi0, c1, hwp, hpl])
      | (refine Tri.cond_true ?_ ?_; (focus simp [upd, hn, s1, x1, s3, hi, hi0, c1, hwp, hpl]; done))
      | (refine Tri.cond_false ?_ ?_; (focus simp [upd, hn, s1, x1, s3, hi, hi0, c1, hwp, hpl]; done))
      | (refine Tri.skip ?_; simp only [thenS, blockS])
      | (refine Tri.block_seq ?_)
      | (refine Tri.block_region ?_)
      | (refine Tri.block_cond ?_)
      | ((with_reducible refine CallK.pure (l49) (Wks.refl _) ?_); simp [upd, hn, s1, x1, s3, hi, hi0, c1, hwp, hpl])
      | ((with_reducible refine CallK.pure (l50) (Wks.refl _) ?_); simp [upd, hn, s1, x1, s3, hi, hi0, c1, hwp, hpl])
      | (refine Tri.exit ?_; simp [upd, hn, s1, x1, s3, hi, hi0, c1, hwp, hpl]; first | (rename ∀ st, Tri _ _ _ st _ → _ => hK; first | (apply hK; clear hK) | (clear hK; rename ∀ st, Tri _ _ _ st _ → _ => hK; first | (apply hK; clear hK) | (clear hK; rename ∀ st, Tri _ _ _ st _ → _ => hK; first | (apply hK; clear hK) | (clear hK; rename ∀ st, Tri _ _ _ st _ → _ => hK; first | (apply hK; clear hK) | (clear hK; rename ∀ st, Tri _ _ _ st _ → _ => hK; first | (apply hK; clear hK) | (clear hK; rename ∀ st, Tri _ _ _ st _ → _ => hK; apply hK; clear hK)))))) | skip)
      | (intro β)
      | (rename ∀ st, Tri _ _ _ st _ → _ => hK; apply hK; clear hK))
    rename ∀ st, Tri _ _ _ st _ → _ => hK
    have fin2 := fun (st : St) (h : KEnd2 r i r.atts[i] st) => hK st ?tail
    case tail =>
      clear s3 s1 x1 hn hK
      obtain ⟨b1, ⟨hn, s1, x1⟩, s3, hno⟩ := h
      repeat (first
        | (refine Tri.seq fun K hK => ?_)
        | (refine Tri.region ?_; simp [upd, hn, s1, x1, s3, hw1])
        | (refine Tri.draw (by kernel_rfl) (by decide +kernel) ?_; simp [upd, hn, s1, x1, s3, hw1])
        | (refine Tri.cond_true ?_ ?_; (focus simp [upd, hn, s1, x1, s3, hw1]; done))
        | (refine Tri.cond_false ?_ ?_; (focus simp [upd, hn, s1, x1, s3, hw1]; done))
        | (refine Tri.skip ?_; simp only [thenS, blockS])
        | (refine Tri.block_seq ?_)
        | (refine Tri.block_region ?_)
        | (refine Tri.block_cond ?_)
        | (refine Tri.exit ?_; simp [upd, hn, s1, x1, s3, hw1]; first | (rename ∀ st, Tri _ _ _ st _ → _ => hK; first | (apply hK; clear hK) | (clear hK; rename ∀ st, Tri _ _ _ st _ → _ => hK; first | (apply hK; clear hK) | (clear hK; rename ∀ st, Tri _ _ _ st _ → _ => hK; first | (apply hK; clear hK) | (clear hK; rename ∀ st, Tri _ _ _ st _ → _ => hK; first | (apply hK; clear hK) | (clear hK; rename ∀ st, Tri _ _ _ st _ → _ => hK; first | (apply hK; clear hK) | (clear hK; rename ∀ st, Tri _ _ _ st _ → _ => hK; apply hK; clear hK)))))) | skip)
        | (intro β)
        | (rename ∀ st, Tri _ _ _ st _ → _ => hK; apply hK; clear hK))
      exact ⟨m - 1, by omega, b1, i + 1, ⟨rfl, by simp [upd, s1], by simpa using x1⟩, by omega, by simp [upd], hP.succ hi c1 fun k hk hki => ⟨hlt k hk hki, hno k hk hki⟩⟩
    clear hK
    refine Tri.block (Tri.loop (KInv2 r i β r.atts[i]) i ?_ ?_)
    · exact ⟨b1, (i : Int) - 1, ⟨rfl, by simp [upd, s1], by simp [x1]⟩, by simp [upd], by simp, by simp [upd, s3], by simp [upd, hwp] <;> omega, by omega, by omega, fun k hk h1 h2 => by omega⟩
    · clear hn s1 x1 s3
      rintro m2 st ⟨b1, j, ⟨hn, s1, x1⟩, s4, x4, s3, s5, hmj, hji, hno⟩
      by_cases hj0 : 0 ≤ j
      case neg =>
        repeat (first
          | (refine Tri.seq fun K hK => ?_)
          | (refine Tri.region ?_; simp [upd, hn, s1, x1, s4, x4, s3, s5, hj0])
          | (refine Tri.draw (by kernel_rfl) (by decide +kernel) ?_; simp [upd, hn, s1, x1, s4, x4, s3, s5, hj0])
          | (refine Tri.cond_true ?_ ?_; (focus simp [upd, hn, s1, x1, s4, x4, s3, s5, hj0]; done))
          | (refine Tri.cond_false ?_ ?_; (focus simp [upd, hn, s1, x1, s4, x4, s3, s5, hj0]; done))
          | (refine Tri.skip ?_; simp only [thenS, blockS])
          | (refine Tri.block_seq ?_)
          | (refine Tri.block_region ?_)
          | (refine Tri.block_cond ?_)
          | (refine Tri.exit ?_; simp [upd, hn, s1, x1, s4, x4, s3, s5, hj0]; first | (rename ∀ st, Tri _ _ _ st _ → _ => hK; first | (apply hK; clear hK) | (clear hK; rename ∀ st, Tri _ _ _ st _ → _ => hK; first | (apply hK; clear hK) | (clear hK; rename ∀ st, Tri _ _ _ st _ → _ => hK; first | (apply hK; clear hK) | (clear hK; rename ∀ st, Tri _ _ _ st _ → _ => hK; first | (apply hK; clear hK) | (clear hK; rename ∀ st, Tri _ _ _ st _ → _ => hK; first | (apply hK; clear hK) | (clear hK; rename ∀ st, Tri _ _ _ st _ → _ => hK; apply hK; clear hK)))))) | skip)
          | (intro β)
          | (rename ∀ st, Tri _ _ _ st _ → _ => hK; apply hK; clear hK))
        apply fin2
        exact ⟨b1, ⟨rfl, by simp [upd, s1], by simpa using x1⟩, by simp [upd, s3], fun k hk hki h => hno k hk (by omega) hki h.2⟩
      obtain ⟨j, rfl⟩ := Int.eq_ofNat_of_zero_le hj0
      have hjl : j < r.atts.length := by omega
      have hnw : IntKind.i64.wrap ((j : Int) - 1) = (j : Int) - 1 := wrap_i64 (by omega) (by omega)
      cases c3 : (r.atts[j].slot == r.atts[i].slot)
      case false =>
        repeat (first
          | (refine Tri.seq fun K hK => ?_)
          | (refine Tri.region ?_; simp [upd, hn, s1, x1, s4, x4, s3, s5, hj0, hjl, c3])
          | (refine Tri.draw (by kernel_rfl) (by decide +kernel) ?_; simp [upd, hn, s1, x1, s4, x4, s3, s5, hj0, hjl, c3])
          | (refine Tri.cond_true ?_ ?_; (focus simp [upd, hn, s1, x1, s4, x4, s3, s5, hj0, hjl, c3]; done))
          | (refine Tri.cond_false ?_ ?_; (focus simp [upd, hn, s1, x1, s4, x4, s3, s5, hj0, hjl, c3]; done))
          | (refine Tri.skip ?_; simp only [thenS, blockS])
          | (refine Tri.block_seq ?_)
          | (refine Tri.block_region ?_)
          | (refine Tri.block_cond ?_)
          | (refine Tri.exit ?_; simp [upd, hn, s1, x1, s4, x4, s3, s5, hj0, hjl, c3]; first | (rename ∀ st, Tri _ _ _ st _ → _ => hK; first | (apply hK; clear hK) | (clear hK; rename ∀ st, Tri _ _ _ st _ → _ => hK; first | (apply hK; clear hK) | (clear hK; rename ∀ st, Tri _ _ _ st _ → _ => hK; first | (apply hK; clear hK) | (clear hK; rename ∀ st, Tri _ _ _ st _ → _ => hK; first | (apply hK; clear hK) | (clear hK; rename ∀ st, Tri _ _ _ st _ → _ => hK; first | (apply hK; clear hK) | (clear hK; rename ∀ st, Tri _ _ _ st _ → _ => hK; apply hK; clear hK)))))) | skip)
          | (intro β)
          | (rename ∀ st, Tri _ _ _ st _ → _ => hK; apply hK; clear hK))
        apply fin2
        refine ⟨b1, ⟨rfl, by simp [upd, s1], by simpa using x1⟩, by simp [upd, s3], fun k hk hki h => ?_⟩
        rcases Nat.lt_or_ge j k with h' | h'
        · exact hno k hk (by omega) hki h.2
        · have h1 : r.atts[j].slot ≤ r.atts[i].slot := ltA_slot (hlt j hjl (by omega))
          have h2 : r.atts[k].slot ≤ r.atts[j].slot := by
            rcases Nat.lt_or_eq_of_le h' with h'' | rfl
            · exact ltA_slot (hP.2 k j hk hjl h'' (by omega)).1
            · exact Int.le_refl _
          simp only [beq_eq_false_iff_ne, ne_eq] at c3
          omega
      cases c4 : (r.atts[j].frm == r.atts[i].frm)
      case true =>
        rw [bad_pair i j hi (by omega) (fun h => h.2 ⟨by simpa using c3, by simpa using c4⟩)]
        repeat (first
          | (refine Tri.seq fun K hK => ?_)
          | (refine Tri.region ?_; simp [upd, hn, s1, x1, s4, x4, s3, s5, hj0, hjl, c3, c4])
          | (refine Tri.draw (by kernel_rfl) (by decide +kernel) ?_; simp [upd, hn, s1, x1, s4, x4, s3, s5, hj0, hjl, c3, c4])
          | (refine Tri.cond_true ?_ ?_; (focus simp [upd, hn, s1, x1, s4, x4, s3, s5, hj0, hjl, c3, c4]; done))
          | (refine Tri.cond_false ?_ ?_; (focus simp [upd, hn, s1, x1, s4, x4, s3, s5, hj0, hjl, c3, c4]; done))
          | (refine Tri.skip ?_; simp only [thenS, blockS])
          | (refine Tri.block_seq ?_)
          | (refine Tri.block_region ?_)
          | (refine Tri.block_cond ?_)
          | (refine Tri.exit ?_; simp [upd, hn, s1, x1, s4, x4, s3, s5, hj0, hjl, c3, c4]; first | (rename ∀ st, Tri _ _ _ st _ → _ => hK; first | (apply hK; clear hK) | (clear hK; rename ∀ st, Tri _ _ _ st _ → _ => hK; first | (apply hK; clear hK) | (clear hK; rename ∀ st, Tri _ _ _ st _ → _ => hK; first | (apply hK; clear hK) | (clear hK; rename ∀ st, Tri _ _ _ st _ → _ => hK; first | (apply hK; clear hK) | (clear hK; rename ∀ st, Tri _ _ _ st _ → _ => hK; first | (apply hK; clear hK) | (clear hK; rename ∀ st, Tri _ _ _ st _ → _ => hK; apply hK; clear hK)))))) | skip)
          | (intro β)
          | (rename ∀ st, Tri _ _ _ st _ → _ => hK; apply hK; clear hK))
        refine Tri.ret ⟨_, rfl, ?_⟩
        simp [upd]
        exact Wk.refl _
      repeat (first
        | (refine Tri.seq fun K hK => ?_)
        | (refine Tri.region ?_; simp [upd, hn, s1, x1, s4, x4, s3, s5, hj0, hjl, c3, c4, hnw])
        | (refine Tri.draw (by kernel_rfl) (by decide +kernel) ?_; simp [upd, hn, s1, x1, s4, x4, s3, s5, hj0, hjl, c3, c4, hnw])
        | (refine Tri.cond_true ?_ ?_; (focus simp [upd, hn, s1, x1, s4, x4, s3, s5, hj0, hjl, c3, c4, hnw]; done))
        | (refine Tri.cond_false ?_ ?_; (focus simp [upd, hn, s1, x1, s4, x4, s3, s5, hj0, hjl, c3, c4, hnw]; done))
        | (refine Tri.skip ?_; simp only [thenS, blockS])
        | (refine Tri.block_seq ?_)
        | (refine Tri.block_region ?_)
        | (refine Tri.block_cond ?_)
        | (refine Tri.exit ?_; simp [upd, hn, s1, x1, s4, x4, s3, s5, hj0, hjl, c3, c4, hnw]; first | (rename ∀ st, Tri _ _ _ st _ → _ => hK; first | (apply hK; clear hK) | (clear hK; rename ∀ st, Tri _ _ _ st _ → _ => hK; first | (apply hK; clear hK) | (clear hK; rename ∀ st, Tri _ _ _ st _ → _ => hK; first | (apply hK; clear hK) | (clear hK; rename ∀ st, Tri _ _ _ st _ → _ => hK; first | (apply hK; clear hK) | (clear hK; rename ∀ st, Tri _ _ _ st _ → _ => hK; first | (apply hK; clear hK) | (clear hK; rename ∀ st, Tri _ _ _ st _ → _ => hK; apply hK; clear hK)))))) | skip)
        | (intro β)
        | (rename ∀ st, Tri _ _ _ st _ → _ => hK; apply hK; clear hK))
      refine ⟨m2 - 1, by omega, b1, (j : Int) - 1, ⟨rfl, by simp [upd, s1], by simpa using x1⟩, by simp [upd, s4], by simpa using x4, by simp [upd, s3], by simp [upd], by omega, by omega, fun k hk h1 h2 => ?_⟩
      by_cases hkj : k = j
      · subst hkj; simpa using c4
      · exact hno k hk (by omega) h2
end Go.Proofs.Ytcohdlochpjnjaa
end
section
open Go Go.Vm
namespace Go.Proofs.Ytcohdlochpjnjaa
set_option maxRecDepth 100000
set_option maxHeartbeats 4000000
set_option linter.unusedSimpArgs false
def anyA (s : Int) (l : List Att) : Bool := l.any fun x => decide (x.slot < s)
def anyD (s : Int) (l : List Del) : Bool := l.any fun x => decide (x.slot < s)
def early (a b : Rec) : Bool := decide (b.slots < a.slots) || (anyA a.slots b.atts || anyD a.slots b.dels)
def join (a b : Rec) : Rec × Int := if check a = 0 ∧ check b = 0 then (if early a b = true then (zrec, 11) else (⟨b.slots, (a.atts ++ b.atts).isEmpty, a.atts ++ b.atts, (a.dels ++ b.dels).isEmpty, a.dels ++ b.dels⟩, 0)) else (zrec, 1)
def joinR (a b : Rec) : Rec × Int := if check a = 0 ∧ check b = 0 then (if early a b = true then (zrec, 11) else (⟨b.slots, false, a.atts ++ b.atts, false, a.dels ++ b.dels⟩, 0)) else (zrec, 1)
theorem anyA_head' (s : Int) : ∀ (l : List Att) (h0 : 0 < l.length), l.Pairwise okA → anyA s l = decide (l[0].slot < s)
  | [], h0, _ => by simp at h0
  | y :: l, h0, hp => by
    unfold anyA
    have hp := (List.pairwise_cons.1 hp).1
    simp only [List.getElem_cons_zero]
    by_cases hy : y.slot < s
    · simp [hy]
    · rw [decide_eq_false hy, List.any_eq_false]
      intro x hx
      rcases List.mem_cons.1 hx with rfl | hx
      · simpa using hy
      · have := ltA_slot (hp x hx).1
        simp; omega
theorem anyA_head {r : Rec} (h : InOrder r) (s : Int) (h0 : 0 < r.atts.length) : anyA s r.atts = decide (r.atts[0].slot < s) := anyA_head' s _ h0 h.atts.2
theorem anyD_head' (s : Int) : ∀ (l : List Del) (h0 : 0 < l.length), l.Pairwise ltD → anyD s l = decide (l[0].slot < s)
  | [], h0, _ => by simp at h0
  | y :: l, h0, hp => by
    unfold anyD
    have hp := (List.pairwise_cons.1 hp).1
    simp only [List.getElem_cons_zero]
    by_cases hy : y.slot < s
    · simp [hy]
    · rw [decide_eq_false hy, List.any_eq_false]
      intro x hx
      rcases List.mem_cons.1 hx with rfl | hx
      · simpa using hy
      · have := hp x hx
        unfold ltD at this
        simp; omega
theorem anyD_head {r : Rec} (h : InOrder r) (s : Int) (h0 : 0 < r.dels.length) : anyD s r.dels = decide (r.dels[0].slot < s) := anyD_head' s _ h0 h.dels.2
attribute [local irreducible] Tri Does DoesB Rounds check sameB anyA anyD
theorem containsA2 (s : Int) (b : Nat) (G H : C) (l : List Att) (nl : Bool) (hl : l.length ≤ 1073741824) :
    DoesB Try.prog 52 [.c (.sl nl 8 none (l.map attC)), .c (.fn 53 [.box 100 b 0])] [(100, b, [.int .i64 s, G, H])] [] (fun _ => (.c (.bool (anyA s l)), [(100, b, [.int .i64 s, G, H])], [])) := by
  unfold anyA
  exact containsA 53 _ b _ (fun x => cloA x b s G H) l nl hl
theorem containsD2 (s : Int) (b : Nat) (G H : C) (l : List Del) (nl : Bool) (hl : l.length ≤ 1073741824) :
    DoesB Try.prog 54 [.c (.sl nl 3 none (l.map delC)), .c (.fn 55 [.box 100 b 0])] [(100, b, [.int .i64 s, G, H])] [] (fun _ => (.c (.bool (anyD s l)), [(100, b, [.int .i64 s, G, H])], [])) := by
  unfold anyD
  exact containsD 55 _ b _ (fun x => cloD x b s G H) l nl hl
theorem join_does (a b : Rec) (ha1 : a.atts.length ≤ 1073741824) (ha2 : a.dels.length ≤ 1073741824) (hb1 : b.atts.length ≤ 1073741824) (hb2 : b.dels.length ≤ 1073741824) : Does Try.prog 32 [.agg (recC a), .agg (recC b)] (.tup [.agg (recC (join a b).1), .c (.int .i64 (join a b).2)]) := by
  refine Does.of_body Try.func32 rfl (by kernel_rfl) rfl rfl (by simp) ?_
  intro E
  have wZ : Wk (.agg [.int .i64 0, .sl true 0 none [], .sl true 0 none []]) (.agg (recC zrec)) := .agg3 (.refl _) (.nil _ _ _ _) (.nil _ _ _ _)
  have k1 := check_does a
  have k2 := check_does b
  have l1 := concatA a.atts b.atts a.an b.an ha1 hb1
  have l2 := concatD a.dels b.dels a.dn b.dn ha2 hb2
  cases c1 : (check a == 0)
  case false =>
    have e : join a b = (zrec, 1) := by rw [join, if_neg (fun h => by simp [h.1] at c1)]
    rw [e]
    simp only [recC] at k1 k2 l1 l2 ⊢
    repeat (first
      | (refine Tri.seq fun K hK => ?_)
      | (refine Tri.region ?_; simp [upd, c1, bne])
      | (refine Tri.draw (by kernel_rfl) (by decide +kernel) ?_; simp [upd, c1, bne])
      | (refine Tri.cond_true ?_ ?_; (focus simp [upd, c1, bne]; done))
      | (refine Tri.cond_false ?_ ?_; (focus simp [upd, c1, bne]; done))
      | (refine Tri.skip ?_; simp only [thenS, blockS])
      | (refine Tri.block_seq ?_)
      | (refine Tri.block_region ?_)
      | (refine Tri.block_cond ?_)
      | ((with_reducible refine CallK.pure (k1) (Wks.refl _) ?_); simp [upd, c1, bne])
      | ((with_reducible refine CallK.pure (k2) (Wks.refl _) ?_); simp [upd, c1, bne])
      | (refine CallK.look 2 (containsA2 a.slots _ (.sl a.an 8 none (a.atts.map attC)) (.sl a.dn 3 none (a.dels.map delC)) b.atts b.an hb1) ⟨.refl _, .fn1 _ (.box _ _ _ _), trivial⟩ ?_ ?_; (focus (exact rfl)); simp [upd, c1, bne])
      | (refine CallK.look 2 (containsD2 a.slots _ (.sl a.an 8 none (a.atts.map attC)) (.sl a.dn 3 none (a.dels.map delC)) b.dels b.dn hb2) ⟨.refl _, .fn1 _ (.box _ _ _ _), trivial⟩ ?_ ?_; (focus (exact rfl)); simp [upd, c1, bne])
      | (refine Tri.exit ?_; simp [upd, c1, bne]; first | (rename ∀ st, Tri _ _ _ st _ → _ => hK; first | (apply hK; clear hK) | (clear hK; rename ∀ st, Tri _ _ _ st _ → _ => hK; first | (apply hK; clear hK) | (clear hK; rename ∀ st, Tri _ _ _ st _ → _ => hK; first | (apply hK; clear hK) | (clear hK; rename ∀ st, Tri _ _ _ st _ → _ => hK; first | (apply hK; clear hK) | (clear hK; rename ∀ st, Tri _ _ _ st _ → _ => hK; first | (apply hK; clear hK) | (clear hK; rename ∀ st, Tri _ _ _ st _ → _ => hK; apply hK; clear hK)))))) | skip)
      | (intro β)
      | (rename ∀ st, Tri _ _ _ st _ → _ => hK; apply hK; clear hK))
    refine Tri.ret ⟨.tup [.agg [.int .i64 0, .sl true 0 none [], .sl true 0 none []], .c (.int .i64 1)], by simp [upd], ?_⟩
    exact .tup2 wZ (.refl _)
  cases c2 : (check b == 0)
  case false =>
    have e : join a b = (zrec, 1) := by rw [join, if_neg (fun h => by simp [h.2] at c2)]
    rw [e]
    simp only [recC] at k1 k2 l1 l2 ⊢
    repeat (first
      | (refine Tri.seq fun K hK => ?_)
      | (refine Tri.region ?_; simp [upd, c1, c2, bne])
      | (refine Tri.draw (by kernel_rfl) (by decide +kernel) ?_; simp [upd, c1, c2, bne])
      | (refine Tri.cond_true ?_ ?_; (focus simp [upd, c1, c2, bne]; done))
      | (refine Tri.cond_false ?_ ?_; (focus simp [upd, c1, c2, bne]; done))
      | (refine Tri.skip ?_; simp only [thenS, blockS])
      | (refine Tri.block_seq ?_)
      | (refine Tri.block_region ?_)
      | (refine Tri.block_cond ?_)
      | ((with_reducible refine CallK.pure (k1) (Wks.refl _) ?_); simp [upd, c1, c2, bne])
      | ((with_reducible refine CallK.pure (k2) (Wks.refl _) ?_); simp [upd, c1, c2, bne])
      | (refine CallK.look 2 (containsA2 a.slots _ (.sl a.an 8 none (a.atts.map attC)) (.sl a.dn 3 none (a.dels.map delC)) b.atts b.an hb1) ⟨.refl _, .fn1 _ (.box _ _ _ _), trivial⟩ ?_ ?_; (focus (exact rfl)); simp [upd, c1, c2, bne])
      | (refine CallK.look 2 (containsD2 a.slots _ (.sl a.an 8 none (a.atts.map attC)) (.sl a.dn 3 none (a.dels.map delC)) b.dels b.dn hb2) ⟨.refl _, .fn1 _ (.box _ _ _ _), trivial⟩ ?_ ?_; (focus (exact rfl)); simp [upd, c1, c2, bne])
      | (refine Tri.exit ?_; simp [upd, c1, c2, bne]; first | (rename ∀ st, Tri _ _ _ st _ → _ => hK; first | (apply hK; clear hK) | (clear hK; rename ∀ st, Tri _ _ _ st _ → _ => hK; first | (apply hK; clear hK) | (clear hK; rename ∀ st, Tri _ _ _ st _ → _ => hK; first | (apply hK; clear hK) | (clear hK; rename ∀ st, Tri _ _ _ st _ → _ => hK; first | (apply hK; clear hK) | (clear hK; rename ∀ st, Tri _ _ _ st _ → _ => hK; first | (apply hK; clear hK) | (clear hK; rename ∀ st, Tri _ _ _ st _ → _ => hK; apply hK; clear hK)))))) | skip)
      | (intro β)
      | (rename ∀ st, Tri _ _ _ st _ → _ => hK; apply hK; clear hK))
    refine Tri.ret ⟨.tup [.agg [.int .i64 0, .sl true 0 none [], .sl true 0 none []], .c (.int .i64 1)], by simp [upd], ?_⟩
    exact .tup2 wZ (.refl _)
  have hc : check a = 0 ∧ check b = 0 := ⟨by simpa using c1, by simpa using c2⟩
  by_cases g1 : b.slots < a.slots
  · have e : join a b = (zrec, 11) := by rw [join, if_pos hc, if_pos (by simp [early, g1])]
    rw [e]
    simp only [recC] at k1 k2 l1 l2 ⊢
    repeat (first
      | (refine Tri.seq fun K hK => ?_)
      | (refine Tri.region ?_; simp [upd, c1, c2, g1, bne])
      | (refine Tri.draw (by kernel_rfl) (by decide +kernel) ?_; simp [upd, c1, c2, g1, bne])
      | (refine Tri.cond_true ?_ ?_; (focus simp [upd, c1, c2, g1, bne]; done))
      | (refine Tri.cond_false ?_ ?_; (focus simp [upd, c1, c2, g1, bne]; done))
      | (refine Tri.skip ?_; simp only [thenS, blockS])
      | (refine Tri.block_seq ?_)
      | (refine Tri.block_region ?_)
      | (refine Tri.block_cond ?_)
      | ((with_reducible refine CallK.pure (k1) (Wks.refl _) ?_); simp [upd, c1, c2, g1, bne])
      | ((with_reducible refine CallK.pure (k2) (Wks.refl _) ?_); simp [upd, c1, c2, g1, bne])
      | (refine CallK.look 2 (containsA2 a.slots _ (.sl a.an 8 none (a.atts.map attC)) (.sl a.dn 3 none (a.dels.map delC)) b.atts b.an hb1) ⟨.refl _, .fn1 _ (.box _ _ _ _), trivial⟩ ?_ ?_; (focus (exact rfl)); simp [upd, c1, c2, g1, bne])
      | (refine CallK.look 2 (containsD2 a.slots _ (.sl a.an 8 none (a.atts.map attC)) (.sl a.dn 3 none (a.dels.map delC)) b.dels b.dn hb2) ⟨.refl _, .fn1 _ (.box _ _ _ _), trivial⟩ ?_ ?_; (focus (exact rfl)); simp [upd, c1, c2, g1, bne])
      | (refine Tri.exit ?_; simp [upd, c1, c2, g1, bne]; first | (rename ∀ st, Tri _ _ _ st _ → _ => hK; first | (apply hK; clear hK) | (clear hK; rename ∀ st, Tri _ _ _ st _ → _ => hK; first | (apply hK; clear hK) | (clear hK; rename ∀ st, Tri _ _ _ st _ → _ => hK; first | (apply hK; clear hK) | (clear hK; rename ∀ st, Tri _ _ _ st _ → _ => hK; first | (apply hK; clear hK) | (clear hK; rename ∀ st, Tri _ _ _ st _ → _ => hK; first | (apply hK; clear hK) | (clear hK; rename ∀ st, Tri _ _ _ st _ → _ => hK; apply hK; clear hK)))))) | skip)
      | (intro β)
      | (rename ∀ st, Tri _ _ _ st _ → _ => hK; apply hK; clear hK))
    refine Tri.ret ⟨.tup [.agg [.int .i64 0, .sl true 0 none [], .sl true 0 none []], .c (.int .i64 11)], by simp [upd], ?_⟩
    exact .tup2 wZ (.refl _)
  cases g2 : anyA a.slots b.atts
  case true =>
    have e : join a b = (zrec, 11) := by rw [join, if_pos hc, if_pos (by simp [early, g2])]
    rw [e]
    simp only [recC] at k1 k2 l1 l2 ⊢
    repeat (first
      | (refine Tri.seq fun K hK => ?_)
      | (refine Tri.region ?_; simp [upd, c1, c2, g1, g2, bne])
      | (refine Tri.draw (by kernel_rfl) (by decide +kernel) ?_; simp [upd, c1, c2, g1, g2, bne])
      | (refine Tri.cond_true ?_ ?_; (focus simp [upd, c1, c2, g1, g2, bne]; done))
      | (refine Tri.cond_false ?_ ?_; (focus simp [upd, c1, c2, g1, g2, bne]; done))
      | (refine Tri.skip ?_; simp only [thenS, blockS])
      | (refine Tri.block_seq ?_)
      | (refine Tri.block_region ?_)
      | (refine Tri.block_cond ?_)
      | ((with_reducible refine CallK.pure (k1) (Wks.refl _) ?_); simp [upd, c1, c2, g1, g2, bne])
      | ((with_reducible refine CallK.pure (k2) (Wks.refl _) ?_); simp [upd, c1, c2, g1, g2, bne])
      | (refine CallK.look 2 (containsA2 a.slots _ (.sl a.an 8 none (a.atts.map attC)) (.sl a.dn 3 none (a.dels.map delC)) b.atts b.an hb1) ⟨.refl _, .fn1 _ (.box _ _ _ _), trivial⟩ ?_ ?_; (focus (exact rfl)); simp [upd, c1, c2, g1, g2, bne])
      | (refine CallK.look 2 (containsD2 a.slots _ (.sl a.an 8 none (a.atts.map attC)) (.sl a.dn 3 none (a.dels.map delC)) b.dels b.dn hb2) ⟨.refl _, .fn1 _ (.box _ _ _ _), trivial⟩ ?_ ?_; (focus (exact rfl)); simp [upd, c1, c2, g1, g2, bne])
      | (refine Tri.exit ?_; simp [upd, c1, c2, g1, g2, bne]; first | (rename ∀ st, Tri _ _ _ st _ → _ => hK; first | (apply hK; clear hK) | (clear hK; rename ∀ st, Tri _ _ _ st _ → _ => hK; first | (apply hK; clear hK) | (clear hK; rename ∀ st, Tri _ _ _ st _ → _ => hK; first | (apply hK; clear hK) | (clear hK; rename ∀ st, Tri _ _ _ st _ → _ => hK; first | (apply hK; clear hK) | (clear hK; rename ∀ st, Tri _ _ _ st _ → _ => hK; first | (apply hK; clear hK) | (clear hK; rename ∀ st, Tri _ _ _ st _ → _ => hK; apply hK; clear hK)))))) | skip)
      | (intro β)
      | (rename ∀ st, Tri _ _ _ st _ → _ => hK; apply hK; clear hK))
    refine Tri.ret ⟨.tup [.agg [.int .i64 0, .sl true 0 none [], .sl true 0 none []], .c (.int .i64 11)], by simp [upd], ?_⟩
    exact .tup2 wZ (.refl _)
  cases g3 : anyD a.slots b.dels
  case true =>
    have e : join a b = (zrec, 11) := by rw [join, if_pos hc, if_pos (by simp [early, g3])]
    rw [e]
    simp only [recC] at k1 k2 l1 l2 ⊢
    repeat (first
      | (refine Tri.seq fun K hK => ?_)
      | (refine Tri.region ?_; simp [upd, c1, c2, g1, g2, g3, bne])
      | (refine Tri.draw (by kernel_rfl) (by decide +kernel) ?_; simp [upd, c1, c2, g1, g2, g3, bne])
      | (refine Tri.cond_true ?_ ?_; (focus simp [upd, c1, c2, g1, g2, g3, bne]; done))
      | (refine Tri.cond_false ?_ ?_; (focus simp [upd, c1, c2, g1, g2, g3, bne]; done))
      | (refine Tri.skip ?_; simp only [thenS, blockS])
      | (refine Tri.block_seq ?_)
      | (refine Tri.block_region ?_)
      | (refine Tri.block_cond ?_)
      | ((with_reducible refine CallK.pure (k1) (Wks.refl _) ?_); simp [upd, c1, c2, g1, g2, g3, bne])
      | ((with_reducible refine CallK.pure (k2) (Wks.refl _) ?_); simp [upd, c1, c2, g1, g2, g3, bne])
      | (refine CallK.look 2 (containsA2 a.slots _ (.sl a.an 8 none (a.atts.map attC)) (.sl a.dn 3 none (a.dels.map delC)) b.atts b.an hb1) ⟨.refl _, .fn1 _ (.box _ _ _ _), trivial⟩ ?_ ?_; (focus (exact rfl)); simp [upd, c1, c2, g1, g2, g3, bne])
      | (refine CallK.look 2 (containsD2 a.slots _ (.sl a.an 8 none (a.atts.map attC)) (.sl a.dn 3 none (a.dels.map delC)) b.dels b.dn hb2) ⟨.refl _, .fn1 _ (.box _ _ _ _), trivial⟩ ?_ ?_; (focus (exact rfl)); simp [upd, c1, c2, g1, g2, g3, bne])
      | (refine Tri.exit ?_; simp [upd, c1, c2, g1, g2, g3, bne]; first | (rename ∀ st, Tri _ _ _ st _ → _ => hK; first | (apply hK; clear hK) | (clear hK; rename ∀ st, Tri _ _ _ st _ → _ => hK; first | (apply hK; clear hK) | (clear hK; rename ∀ st, Tri _ _ _ st _ → _ => hK; first | (apply hK; clear hK) | (clear hK; rename ∀ st, Tri _ _ _ st _ → _ => hK; first | (apply hK; clear hK) | (clear hK; rename ∀ st, Tri _ _ _ st _ → _ => hK; first | (apply hK; clear hK) | (clear hK; rename ∀ st, Tri _ _ _ st _ → _ => hK; apply hK; clear hK)))))) | skip)
      | (intro β)
      | (rename ∀ st, Tri _ _ _ st _ → _ => hK; apply hK; clear hK))
    refine Tri.ret ⟨.tup [.agg [.int .i64 0, .sl true 0 none [], .sl true 0 none []], .c (.int .i64 11)], by simp [upd], ?_⟩
    exact .tup2 wZ (.refl _)
  have e : join a b = (⟨b.slots, (a.atts ++ b.atts).isEmpty, a.atts ++ b.atts, (a.dels ++ b.dels).isEmpty, a.dels ++ b.dels⟩, 0) := by rw [join, if_pos hc, if_neg (by simp [early, g1, g2, g3])]
  rw [e]
  generalize a.atts ++ b.atts = ab at *
  generalize a.dels ++ b.dels = db at *
  simp only [recC] at k1 k2 l1 l2 ⊢
  repeat (first
    | (refine Tri.seq fun K hK => ?_)
    | (refine Tri.region ?_; simp [upd, c1, c2, g1, g2, g3, bne])
    | (refine Tri.draw (by kernel_rfl) (by decide +kernel) ?_; simp [upd, c1, c2, g1, g2, g3, bne])
    | (refine Tri.cond_true ?_ ?_; (focus simp [upd, c1, c2, g1, g2, g3, bne]; done))
    | (refine Tri.cond_false ?_ ?_; (focus simp [upd, c1, c2, g1, g2, g3, bne]; done))
    | (refine Tri.skip ?_; simp only [thenS, blockS])
    | (refine Tri.block_seq ?_)
    | (refine Tri.block_region ?_)
    | (refine Tri.block_cond ?_)
    | ((with_reducible refine CallK.pure (k1) (Wks.refl _) ?_); simp [upd, c1, c2, g1, g2, g3, bne])
    | ((with_reducible refine CallK.pure (k2) (Wks.refl _) ?_); simp [upd, c1, c2, g1, g2, g3, bne])
    | ((with_reducible refine CallK.pure (l1) (Wks.refl _) ?_); simp [upd, c1, c2, g1, g2, g3, bne])
    | ((with_reducible refine CallK.pure (l2) (Wks.refl _) ?_); simp [upd, c1, c2, g1, g2, g3, bne])
    | (refine CallK.look 2 (containsA2 a.slots _ (.sl a.an 8 none (a.atts.map attC)) (.sl a.dn 3 none (a.dels.map delC)) b.atts b.an hb1) ⟨.refl _, .fn1 _ (.box _ _ _ _), trivial⟩ ?_ ?_; (focus (exact rfl)); simp [upd, c1, c2, g1, g2, g3, bne])
    | (refine CallK.look 2 (containsD2 a.slots _ (.sl a.an 8 none (a.atts.map attC)) (.sl a.dn 3 none (a.dels.map delC)) b.dels b.dn hb2) ⟨.refl _, .fn1 _ (.box _ _ _ _), trivial⟩ ?_ ?_; (focus (exact rfl)); simp [upd, c1, c2, g1, g2, g3, bne])
    | (refine Tri.exit ?_; simp [upd, c1, c2, g1, g2, g3, bne]; first | (rename ∀ st, Tri _ _ _ st _ → _ => hK; first | (apply hK; clear hK) | (clear hK; rename ∀ st, Tri _ _ _ st _ → _ => hK; first | (apply hK; clear hK) | (clear hK; rename ∀ st, Tri _ _ _ st _ → _ => hK; first | (apply hK; clear hK) | (clear hK; rename ∀ st, Tri _ _ _ st _ → _ => hK; first | (apply hK; clear hK) | (clear hK; rename ∀ st, Tri _ _ _ st _ → _ => hK; first | (apply hK; clear hK) | (clear hK; rename ∀ st, Tri _ _ _ st _ → _ => hK; apply hK; clear hK)))))) | skip)
    | (intro β)
    | (rename ∀ st, Tri _ _ _ st _ → _ => hK; apply hK; clear hK))
  refine Tri.ret ⟨_, by simp [upd] <;> exact rfl, ?_⟩
  exact Wk.refl _
theorem joinR_does (a b : Rec) (ha1 : a.atts.length ≤ 1073741824) (ha2 : a.dels.length ≤ 1073741824) (hb1 : b.atts.length ≤ 1073741824) (hb2 : b.dels.length ≤ 1073741824) : Does Try.prog 33 [.agg (recC a), .agg (recC b)] (.tup [.agg (recC (joinR a b).1), .c (.int .i64 (joinR a b).2)]) := by
  refine Does.of_body Try.func33 rfl (by kernel_rfl) rfl rfl (by simp) ?_
  intro E
  have wZ : Wk (.agg [.int .i64 0, .sl true 0 none [], .sl true 0 none []]) (.agg (recC zrec)) := .agg3 (.refl _) (.nil _ _ _ _) (.nil _ _ _ _)
  have k1 := checkR_does a
  have k2 := checkR_does b
  cases c1 : (check a == 0)
  case false =>
    have e : joinR a b = (zrec, 1) := by rw [joinR, if_neg (fun h => by simp [h.1] at c1)]
    rw [e]
    simp only [recC] at k1 k2 ⊢
    repeat (first
      | (refine Tri.seq fun K hK => ?_)
      | (refine Tri.region ?_; simp [upd, c1, bne])
      | (refine Tri.draw (by kernel_rfl) (by decide +kernel) ?_; simp [upd, c1, bne])
      | (refine Tri.draw2 [] [0, 1, 2, 3, 4, 5, 6, 7] [] [] (by kernel_rfl) (by kernel_rfl) (by decide) (by rfl) (by decide +kernel) ?_; simp [upd, c1, bne])
      | (refine Tri.cond_true ?_ ?_; (focus simp [upd, c1, bne]; done))
      | (refine Tri.cond_false ?_ ?_; (focus simp [upd, c1, bne]; done))
      | (refine Tri.skip ?_; simp only [thenS, blockS])
      | (refine Tri.block_seq ?_)
      | (refine Tri.block_region ?_)
      | (refine Tri.block_cond ?_)
      | ((with_reducible refine CallK.pure (k1) (Wks.refl _) ?_); simp [upd, c1, bne])
      | ((with_reducible refine CallK.pure (k2) (Wks.refl _) ?_); simp [upd, c1, bne])
      | (refine Tri.exit ?_; simp [upd, c1, bne]; first | (rename ∀ st, Tri _ _ _ st _ → _ => hK; first | (apply hK; clear hK) | (clear hK; rename ∀ st, Tri _ _ _ st _ → _ => hK; first | (apply hK; clear hK) | (clear hK; rename ∀ st, Tri _ _ _ st _ → _ => hK; first | (apply hK; clear hK) | (clear hK; rename ∀ st, Tri _ _ _ st _ → _ => hK; first | (apply hK; clear hK) | (clear hK; rename ∀ st, Tri _ _ _ st _ → _ => hK; first | (apply hK; clear hK) | (clear hK; rename ∀ st, Tri _ _ _ st _ → _ => hK; apply hK; clear hK)))))) | skip)
      | (intro β)
      | (rename ∀ st, Tri _ _ _ st _ → _ => hK; apply hK; clear hK))
    refine Tri.ret ⟨.tup [.agg [.int .i64 0, .sl true 0 none [], .sl true 0 none []], .c (.int .i64 1)], by simp [upd], ?_⟩
    exact .tup2 wZ (.refl _)
  cases c2 : (check b == 0)
  case false =>
    have e : joinR a b = (zrec, 1) := by rw [joinR, if_neg (fun h => by simp [h.2] at c2)]
    rw [e]
    simp only [recC] at k1 k2 ⊢
    repeat (first
      | (refine Tri.seq fun K hK => ?_)
      | (refine Tri.region ?_; simp [upd, c1, c2, bne])
      | (refine Tri.draw (by kernel_rfl) (by decide +kernel) ?_; simp [upd, c1, c2, bne])
      | (refine Tri.draw2 [] [0, 1, 2, 3, 4, 5, 6, 7] [] [] (by kernel_rfl) (by kernel_rfl) (by decide) (by rfl) (by decide +kernel) ?_; simp [upd, c1, c2, bne])
      | (refine Tri.cond_true ?_ ?_; (focus simp [upd, c1, c2, bne]; done))
      | (refine Tri.cond_false ?_ ?_; (focus simp [upd, c1, c2, bne]; done))
      | (refine Tri.skip ?_; simp only [thenS, blockS])
      | (refine Tri.block_seq ?_)
      | (refine Tri.block_region ?_)
      | (refine Tri.block_cond ?_)
      | ((with_reducible refine CallK.pure (k1) (Wks.refl _) ?_); simp [upd, c1, c2, bne])
      | ((with_reducible refine CallK.pure (k2) (Wks.refl _) ?_); simp [upd, c1, c2, bne])
      | (refine Tri.exit ?_; simp [upd, c1, c2, bne]; first | (rename ∀ st, Tri _ _ _ st _ → _ => hK; first | (apply hK; clear hK) | (clear hK; rename ∀ st, Tri _ _ _ st _ → _ => hK; first | (apply hK; clear hK) | (clear hK; rename ∀ st, Tri _ _ _ st _ → _ => hK; first | (apply hK; clear hK) | (clear hK; rename ∀ st, Tri _ _ _ st _ → _ => hK; first | (apply hK; clear hK) | (clear hK; rename ∀ st, Tri _ _ _ st _ → _ => hK; first | (apply hK; clear hK) | (clear hK; rename ∀ st, Tri _ _ _ st _ → _ => hK; apply hK; clear hK)))))) | skip)
      | (intro β)
      | (rename ∀ st, Tri _ _ _ st _ → _ => hK; apply hK; clear hK))
    refine Tri.ret ⟨.tup [.agg [.int .i64 0, .sl true 0 none [], .sl true 0 none []], .c (.int .i64 1)], by simp [upd], ?_⟩
    exact .tup2 wZ (.refl _)
  have hc : check a = 0 ∧ check b = 0 := ⟨by simpa using c1, by simpa using c2⟩
  have ho := (check_iff b).1 hc.2
  by_cases g1 : b.slots < a.slots
  · have e : joinR a b = (zrec, 11) := by rw [joinR, if_pos hc, if_pos (by simp [early, g1])]
    rw [e]
    simp only [recC] at k1 k2 ⊢
    repeat (first
      | (refine Tri.seq fun K hK => ?_)
      | (refine Tri.region ?_; simp [upd, c1, c2, g1, bne])
      | (refine Tri.draw (by kernel_rfl) (by decide +kernel) ?_; simp [upd, c1, c2, g1, bne])
      | (refine Tri.draw2 [] [0, 1, 2, 3, 4, 5, 6, 7] [] [] (by kernel_rfl) (by kernel_rfl) (by decide) (by rfl) (by decide +kernel) ?_; simp [upd, c1, c2, g1, bne])
      | (refine Tri.cond_true ?_ ?_; (focus simp [upd, c1, c2, g1, bne]; done))
      | (refine Tri.cond_false ?_ ?_; (focus simp [upd, c1, c2, g1, bne]; done))
      | (refine Tri.skip ?_; simp only [thenS, blockS])
      | (refine Tri.block_seq ?_)
      | (refine Tri.block_region ?_)
      | (refine Tri.block_cond ?_)
      | ((with_reducible refine CallK.pure (k1) (Wks.refl _) ?_); simp [upd, c1, c2, g1, bne])
      | ((with_reducible refine CallK.pure (k2) (Wks.refl _) ?_); simp [upd, c1, c2, g1, bne])
      | (refine Tri.exit ?_; simp [upd, c1, c2, g1, bne]; first | (rename ∀ st, Tri _ _ _ st _ → _ => hK; first | (apply hK; clear hK) | (clear hK; rename ∀ st, Tri _ _ _ st _ → _ => hK; first | (apply hK; clear hK) | (clear hK; rename ∀ st, Tri _ _ _ st _ → _ => hK; first | (apply hK; clear hK) | (clear hK; rename ∀ st, Tri _ _ _ st _ → _ => hK; first | (apply hK; clear hK) | (clear hK; rename ∀ st, Tri _ _ _ st _ → _ => hK; first | (apply hK; clear hK) | (clear hK; rename ∀ st, Tri _ _ _ st _ → _ => hK; apply hK; clear hK)))))) | skip)
      | (intro β)
      | (rename ∀ st, Tri _ _ _ st _ → _ => hK; apply hK; clear hK))
    refine Tri.ret ⟨.tup [.agg [.int .i64 0, .sl true 0 none [], .sl true 0 none []], .c (.int .i64 11)], by simp [upd], ?_⟩
    exact .tup2 wZ (.refl _)
  by_cases x0 : 0 < b.atts.length
  · have y0 := anyA_head ho a.slots x0
    by_cases x1 : b.atts[0].slot < a.slots
    · have e : joinR a b = (zrec, 11) := by rw [joinR, if_pos hc, if_pos (by simp [early, y0, x1])]
      rw [e]
      simp only [recC] at k1 k2 ⊢
      repeat (first
        | (refine Tri.seq fun K hK => ?_)
        | (refine Tri.region ?_; simp [upd, c1, c2, g1, x0, x1, bne])
        | (refine Tri.draw (by kernel_rfl) (by decide +kernel) ?_; simp [upd, c1, c2, g1, x0, x1, bne])
        | (refine Tri.draw2 [] [0, 1, 2, 3, 4, 5, 6, 7] [] [] (by kernel_rfl) (by kernel_rfl) (by decide) (by rfl) (by decide +kernel) ?_; simp [upd, c1, c2, g1, x0, x1, bne])
        | (refine Tri.cond_true ?_ ?_; (focus simp [upd, c1, c2, g1, x0, x1, bne]; done))
        | (refine Tri.cond_false ?_ ?_; (focus simp [upd, c1, c2, g1, x0, x1, bne]; done))
        | (refine Tri.skip ?_; simp only [thenS, blockS])
        | (refine Tri.block_seq ?_)
        | (refine Tri.block_region ?_)
        | (refine Tri.block_cond ?_)
        | ((with_reducible refine CallK.pure (k1) (Wks.refl _) ?_); simp [upd, c1, c2, g1, x0, x1, bne])
        | ((with_reducible refine CallK.pure (k2) (Wks.refl _) ?_); simp [upd, c1, c2, g1, x0, x1, bne])
        | (refine Tri.exit ?_; simp [upd, c1, c2, g1, x0, x1, bne]; first | (rename ∀ st, Tri _ _ _ st _ → _ => hK; first | (apply hK; clear hK) | (clear hK; rename ∀ st, Tri _ _ _ st _ → _ => hK; first | (apply hK; clear hK) | (clear hK; rename ∀ st, Tri _ _ _ st _ → _ => hK; first | (apply hK; clear hK) | (clear hK; rename ∀ st, Tri _ _ _ st _ → _ => hK; first | (apply hK; clear hK) | (clear hK; rename ∀ st, Tri _ _ _ st _ → _ => hK; first | (apply hK; clear hK) | (clear hK; rename ∀ st, Tri _ _ _ st _ → _ => hK; apply hK; clear hK)))))) | skip)
        | (intro β)
        | (rename ∀ st, Tri _ _ _ st _ → _ => hK; apply hK; clear hK))
      refine Tri.ret ⟨.tup [.agg [.int .i64 0, .sl true 0 none [], .sl true 0 none []], .c (.int .i64 11)], by simp [upd], ?_⟩
      exact .tup2 wZ (.refl _)
    have hA : anyA a.slots b.atts = false := by rw [y0]; simp [x1]
    by_cases z0 : 0 < b.dels.length
    · have w0 := anyD_head ho a.slots z0
      by_cases z1 : b.dels[0].slot < a.slots
      · have e : joinR a b = (zrec, 11) := by rw [joinR, if_pos hc, if_pos (by simp [early, w0, z1])]
        rw [e]
        simp only [recC] at k1 k2 ⊢
        repeat (first
          | (refine Tri.seq fun K hK => ?_)
          | (refine Tri.region ?_; simp [upd, c1, c2, g1, x0, x1, z0, z1, bne])
          | (refine Tri.draw (by kernel_rfl) (by decide +kernel) ?_; simp [upd, c1, c2, g1, x0, x1, z0, z1, bne])
          | (refine Tri.draw2 [] [0, 1, 2, 3, 4, 5, 6, 7] [] [] (by kernel_rfl) (by kernel_rfl) (by decide) (by rfl) (by decide +kernel) ?_; simp [upd, c1, c2, g1, x0, x1, z0, z1, bne])
          | (refine Tri.cond_true ?_ ?_; (focus simp [upd, c1, c2, g1, x0, x1, z0, z1, bne]; done))
          | (refine Tri.cond_false ?_ ?_; (focus simp [upd, c1, c2, g1, x0, x1, z0, z1, bne]; done))
          | (refine Tri.skip ?_; simp only [thenS, blockS])
          | (refine Tri.block_seq ?_)
          | (refine Tri.block_region ?_)
          | (refine Tri.block_cond ?_)
          | ((with_reducible refine CallK.pure (k1) (Wks.refl _) ?_); simp [upd, c1, c2, g1, x0, x1, z0, z1, bne])
          | ((with_reducible refine CallK.pure (k2) (Wks.refl _) ?_); simp [upd, c1, c2, g1, x0, x1, z0, z1, bne])
          | (refine Tri.exit ?_; simp [upd, c1, c2, g1, x0, x1, z0, z1, bne]; first | (rename ∀ st, Tri _ _ _ st _ → _ => hK; first | (apply hK; clear hK) | (clear hK; rename ∀ st, Tri _ _ _ st _ → _ => hK; first | (apply hK; clear hK) | (clear hK; rename ∀ st, Tri _ _ _ st _ → _ => hK; first | (apply hK; clear hK) | (clear hK; rename ∀ st, Tri _ _ _ st _ → _ => hK; first | (apply hK; clear hK) | (clear hK; rename ∀ st, Tri _ _ _ st _ → _ => hK; first | (apply hK; clear hK) | (clear hK; rename ∀ st, Tri _ _ _ st _ → _ => hK; apply hK; clear hK)))))) | skip)
          | (intro β)
          | (rename ∀ st, Tri _ _ _ st _ → _ => hK; apply hK; clear hK))
        refine Tri.ret ⟨.tup [.agg [.int .i64 0, .sl true 0 none [], .sl true 0 none []], .c (.int .i64 11)], by simp [upd], ?_⟩
        exact .tup2 wZ (.refl _)
      have hD : anyD a.slots b.dels = false := by rw [w0]; simp [z1]
      have e : joinR a b = (⟨b.slots, false, a.atts ++ b.atts, false, a.dels ++ b.dels⟩, 0) := by rw [joinR, if_pos hc, if_neg (by simp [early, g1, hA, hD])]
      rw [e]
      have q1 : a.atts.length * 64 ≤ 140737488355328 := by omega
      have q2 : (a.atts.length + b.atts.length) * 64 ≤ 140737488355328 := by omega
      have q3 : a.dels.length * 24 ≤ 140737488355328 := by omega
      have q4 : (a.dels.length + b.dels.length) * 24 ≤ 140737488355328 := by omega
      simp only [recC] at k1 k2 ⊢
      repeat (first
        | (refine Tri.seq fun K hK => ?_)
        | (refine Tri.region ?_; simp [upd, c1, c2, g1, x0, x1, z0, z1, q1, q2, q3, q4, bne])
        | (refine Tri.draw (by kernel_rfl) (by decide +kernel) ?_; simp [upd, c1, c2, g1, x0, x1, z0, z1, q1, q2, q3, q4, bne])
        | (refine Tri.draw2 [] [0, 1, 2, 3, 4, 5, 6, 7] [] [] (by kernel_rfl) (by kernel_rfl) (by decide) (by rfl) (by decide +kernel) ?_; simp [upd, c1, c2, g1, x0, x1, z0, z1, q1, q2, q3, q4, bne])
        | (refine Tri.cond_true ?_ ?_; (focus simp [upd, c1, c2, g1, x0, x1, z0, z1, q1, q2, q3, q4, bne]; done))
        | (refine Tri.cond_false ?_ ?_; (focus simp [upd, c1, c2, g1, x0, x1, z0, z1, q1, q2, q3, q4, bne]; done))
        | (refine Tri.skip ?_; simp only [thenS, blockS])
        | (refine Tri.block_seq ?_)
        | (refine Tri.block_region ?_)
        | (refine Tri.block_cond ?_)
        | ((with_reducible refine CallK.pure (k1) (Wks.refl _) ?_); simp [upd, c1, c2, g1, x0, x1, z0, z1, q1, q2, q3, q4, bne])
        | ((with_reducible refine CallK.pure (k2) (Wks.refl _) ?_); simp [upd, c1, c2, g1, x0, x1, z0, z1, q1, q2, q3, q4, bne])
        | (refine Tri.exit ?_; simp [upd, c1, c2, g1, x0, x1, z0, z1, q1, q2, q3, q4, bne]; first | (rename ∀ st, Tri _ _ _ st _ → _ => hK; first | (apply hK; clear hK) | (clear hK; rename ∀ st, Tri _ _ _ st _ → _ => hK; first | (apply hK; clear hK) | (clear hK; rename ∀ st, Tri _ _ _ st _ → _ => hK; first | (apply hK; clear hK) | (clear hK; rename ∀ st, Tri _ _ _ st _ → _ => hK; first | (apply hK; clear hK) | (clear hK; rename ∀ st, Tri _ _ _ st _ → _ => hK; first | (apply hK; clear hK) | (clear hK; rename ∀ st, Tri _ _ _ st _ → _ => hK; apply hK; clear hK)))))) | skip)
        | (intro β)
        | (rename ∀ st, Tri _ _ _ st _ → _ => hK; apply hK; clear hK))
      refine Tri.ret ⟨_, by simp [upd] <;> exact rfl, ?_⟩
      refine .tup2 (.agg3 (.refl _) ?_ ?_) (.refl _)
      · rw [List.map_append]
        exact .untag _ _ _ _
      · rw [List.map_append]
        exact .untag _ _ _ _
    have hD : anyD a.slots b.dels = false := by
      have : b.dels = [] := List.length_eq_zero_iff.1 (by omega)
      rw [this]; unfold anyD; rfl
    have e : joinR a b = (⟨b.slots, false, a.atts ++ b.atts, false, a.dels ++ b.dels⟩, 0) := by rw [joinR, if_pos hc, if_neg (by simp [early, g1, hA, hD])]
    rw [e]
    have q1 : a.atts.length * 64 ≤ 140737488355328 := by omega
    have q2 : (a.atts.length + b.atts.length) * 64 ≤ 140737488355328 := by omega
    have q3 : a.dels.length * 24 ≤ 140737488355328 := by omega
    have q4 : (a.dels.length + b.dels.length) * 24 ≤ 140737488355328 := by omega
    simp only [recC] at k1 k2 ⊢
    repeat (first
      | (refine Tri.seq fun K hK => ?_)
      | (refine Tri.region ?_; simp [upd, c1, c2, g1, x0, x1, z0, q1, q2, q3, q4, bne])
      | (refine Tri.draw (by kernel_rfl) (by decide +kernel) ?_; simp [upd, c1, c2, g1, x0, x1, z0, q1, q2, q3, q4, bne])
      | (refine Tri.draw2 [] [0, 1, 2, 3, 4, 5, 6, 7] [] [] (by kernel_rfl) (by kernel_rfl) (by decide) (by rfl) (by decide +kernel) ?_; simp [upd, c1, c2, g1, x0, x1, z0, q1, q2, q3, q4, bne])
      | (refine Tri.cond_true ?_ ?_; (focus simp [upd, c1, c2, g1, x0, x1, z0, q1, q2, q3, q4, bne]; done))
      | (refine Tri.cond_false ?_ ?_; (focus simp [upd, c1, c2, g1, x0, x1, z0, q1, q2, q3, q4, bne]; done))
      | (refine Tri.skip ?_; simp only [thenS, blockS])
      | (refine Tri.block_seq ?_)
      | (refine Tri.block_region ?_)
      | (refine Tri.block_cond ?_)
      | ((with_reducible refine CallK.pure (k1) (Wks.refl _) ?_); simp [upd, c1, c2, g1, x0, x1, z0, q1, q2, q3, q4, bne])
      | ((with_reducible refine CallK.pure (k2) (Wks.refl _) ?_); simp [upd, c1, c2, g1, x0, x1, z0, q1, q2, q3, q4, bne])
      | (refine Tri.exit ?_; simp [upd, c1, c2, g1, x0, x1, z0, q1, q2, q3, q4, bne]; first | (rename ∀ st, Tri _ _ _ st _ → _ => hK; first | (apply hK; clear hK) | (clear hK; rename ∀ st, Tri _ _ _ st _ → _ => hK; first | (apply hK; clear hK) | (clear hK; rename ∀ st, Tri _ _ _ st _ → _ => hK; first | (apply hK; clear hK) | (clear hK; rename ∀ st, Tri _ _ _ st _ → _ => hK; first | (apply hK; clear hK) | (clear hK; rename ∀ st, Tri _ _ _ st _ → _ => hK; first | (apply hK; clear hK) | (clear hK; rename ∀ st, Tri _ _ _ st _ → _ => hK; apply hK; clear hK)))))) | skip)
      | (intro β)
      | (rename ∀ st, Tri _ _ _ st _ → _ => hK; apply hK; clear hK))
    refine Tri.ret ⟨_, by simp [upd] <;> exact rfl, ?_⟩
    refine .tup2 (.agg3 (.refl _) ?_ ?_) (.refl _)
    · rw [List.map_append]
      exact .untag _ _ _ _
    · rw [List.map_append]
      exact .untag _ _ _ _
  have hA : anyA a.slots b.atts = false := by
    have : b.atts = [] := List.length_eq_zero_iff.1 (by omega)
    rw [this]; unfold anyA; rfl
  by_cases z0 : 0 < b.dels.length
  · have w0 := anyD_head ho a.slots z0
    by_cases z1 : b.dels[0].slot < a.slots
    · have e : joinR a b = (zrec, 11) := by rw [joinR, if_pos hc, if_pos (by simp [early, w0, z1])]
      rw [e]
      simp only [recC] at k1 k2 ⊢
      repeat (first
        | (refine Tri.seq fun K hK => ?_)
        | (refine Tri.region ?_; simp [upd, c1, c2, g1, x0, z0, z1, bne])
        | (refine Tri.draw (by kernel_rfl) (by decide +kernel) ?_; simp [upd, c1, c2, g1, x0, z0, z1, bne])
        | (refine Tri.draw2 [] [0, 1, 2, 3, 4, 5, 6, 7] [] [] (by kernel_rfl) (by kernel_rfl) (by decide) (by rfl) (by decide +kernel) ?_; simp [upd, c1, c2, g1, x0, z0, z1, bne])
        | (refine Tri.cond_true ?_ ?_; (focus simp [upd, c1, c2, g1, x0, z0, z1, bne]; done))
        | (refine Tri.cond_false ?_ ?_; (focus simp [upd, c1, c2, g1, x0, z0, z1, bne]; done))
        | (refine Tri.skip ?_; simp only [thenS, blockS])
        | (refine Tri.block_seq ?_)
        | (refine Tri.block_region ?_)
        | (refine Tri.block_cond ?_)
        | ((with_reducible refine CallK.pure (k1) (Wks.refl _) ?_); simp [upd, c1, c2, g1, x0, z0, z1, bne])
        | ((with_reducible refine CallK.pure (k2) (Wks.refl _) ?_); simp [upd, c1, c2, g1, x0, z0, z1, bne])
        | (refine Tri.exit ?_; simp [upd, c1, c2, g1, x0, z0, z1, bne]; first | (rename ∀ st, Tri _ _ _ st _ → _ => hK; first | (apply hK; clear hK) | (clear hK; rename ∀ st, Tri _ _ _ st _ → _ => hK; first | (apply hK; clear hK) | (clear hK; rename ∀ st, Tri _ _ _ st _ → _ => hK; first | (apply hK; clear hK) | (clear hK; rename ∀ st, Tri _ _ _ st _ → _ => hK; first | (apply hK; clear hK) | (clear hK; rename ∀ st, Tri _ _ _ st _ → _ => hK; first | (apply hK; clear hK) | (clear hK; rename ∀ st, Tri _ _ _ st _ → _ => hK; apply hK; clear hK)))))) | skip)
        | (intro β)
        | (rename ∀ st, Tri _ _ _ st _ → _ => hK; apply hK; clear hK))
      refine Tri.ret ⟨.tup [.agg [.int .i64 0, .sl true 0 none [], .sl true 0 none []], .c (.int .i64 11)], by simp [upd], ?_⟩
      exact .tup2 wZ (.refl _)
    have hD : anyD a.slots b.dels = false := by rw [w0]; simp [z1]
    have e : joinR a b = (⟨b.slots, false, a.atts ++ b.atts, false, a.dels ++ b.dels⟩, 0) := by rw [joinR, if_pos hc, if_neg (by simp [early, g1, hA, hD])]
    rw [e]
    have q1 : a.atts.length * 64 ≤ 140737488355328 := by omega
    have q2 : (a.atts.length + b.atts.length) * 64 ≤ 140737488355328 := by omega
    have q3 : a.dels.length * 24 ≤ 140737488355328 := by omega
    have q4 : (a.dels.length + b.dels.length) * 24 ≤ 140737488355328 := by omega
    simp only [recC] at k1 k2 ⊢
    repeat (first
      | (refine Tri.seq fun K hK => ?_)
      | (refine Tri.region ?_; simp [upd, c1, c2, g1, x0, z0, z1, q1, q2, q3, q4, bne])
      | (refine Tri.draw (by kernel_rfl) (by decide +kernel) ?_; simp [upd, c1, c2, g1, x0, z0, z1, q1, q2, q3, q4, bne])
      | (refine Tri.draw2 [] [0, 1, 2, 3, 4, 5, 6, 7] [] [] (by kernel_rfl) (by kernel_rfl) (by decide) (by rfl) (by decide +kernel) ?_; simp [upd, c1, c2, g1, x0, z0, z1, q1, q2, q3, q4, bne])
      | (refine Tri.cond_true ?_ ?_; (focus simp [upd, c1, c2, g1, x0, z0, z1, q1, q2, q3, q4, bne]; done))
      | (refine Tri.cond_false ?_ ?_; (focus simp [upd, c1, c2, g1, x0, z0, z1, q1, q2, q3, q4, bne]; done))
      | (refine Tri.skip ?_; simp only [thenS, blockS])
      | (refine Tri.block_seq ?_)
      | (refine Tri.block_region ?_)
      | (refine Tri.block_cond ?_)
      | ((with_reducible refine CallK.pure (k1) (Wks.refl _) ?_); simp [upd, c1, c2, g1, x0, z0, z1, q1, q2, q3, q4, bne])
      | ((with_reducible refine CallK.pure (k2) (Wks.refl _) ?_); simp [upd, c1, c2, g1, x0, z0, z1, q1, q2, q3, q4, bne])
      | (refine Tri.exit ?_; simp [upd, c1, c2, g1, x0, z0, z1, q1, q2, q3, q4, bne]; first | (rename ∀ st, Tri _ _ _ st _ → _ => hK; first | (apply hK; clear hK) | (clear hK; rename ∀ st, Tri _ _ _ st _ → _ => hK; first | (apply hK; clear hK) | (clear hK; rename ∀ st, Tri _ _ _ st _ → _ => hK; first | (apply hK; clear hK) | (clear hK; rename ∀ st, Tri _ _ _ st _ → _ => hK; first | (apply hK; clear hK) | (clear hK; rename ∀ st, Tri _ _ _ st _ → _ => hK; first | (apply hK; clear hK) | (clear hK; rename ∀ st, Tri _ _ _ st _ → _ => hK; apply hK; clear hK)))))) | skip)
      | (intro β)
      | (rename ∀ st, Tri _ _ _ st _ → _ => hK; apply hK; clear hK))
    refine Tri.ret ⟨_, by simp [upd] <;> exact rfl, ?_⟩
    refine .tup2 (.agg3 (.refl _) ?_ ?_) (.refl _)
    · rw [List.map_append]
      exact .untag _ _ _ _
    · rw [List.map_append]
      exact .untag _ _ _ _
  have hD : anyD a.slots b.dels = false := by
    have : b.dels = [] := List.length_eq_zero_iff.1 (by omega)
    rw [this]; unfold anyD; rfl
  have e : joinR a b = (⟨b.slots, false, a.atts ++ b.atts, false, a.dels ++ b.dels⟩, 0) := by rw [joinR, if_pos hc, if_neg (by simp [early, g1, hA, hD])]
  rw [e]
  have q1 : a.atts.length * 64 ≤ 140737488355328 := by omega
  have q2 : (a.atts.length + b.atts.length) * 64 ≤ 140737488355328 := by omega
  have q3 : a.dels.length * 24 ≤ 140737488355328 := by omega
  have q4 : (a.dels.length + b.dels.length) * 24 ≤ 140737488355328 := by omega
  simp only [recC] at k1 k2 ⊢
  repeat (first
    | (refine Tri.seq fun K hK => ?_)
    | (refine Tri.region ?_; simp [upd, c1, c2, g1, x0, z0, q1, q2, q3, q4, bne])
    | (refine Tri.draw (by kernel_rfl) (by decide +kernel) ?_; simp [upd, c1, c2, g1, x0, z0, q1, q2, q3, q4, bne])
    | (refine Tri.draw2 [] [0, 1, 2, 3, 4, 5, 6, 7] [] [] (by kernel_rfl) (by kernel_rfl) (by decide) (by rfl) (by decide +kernel) ?_; simp [upd, c1, c2, g1, x0, z0, q1, q2, q3, q4, bne])
    | (refine Tri.cond_true ?_ ?_; (focus simp [upd, c1, c2, g1, x0, z0, q1, q2, q3, q4, bne]; done))
    | (refine Tri.cond_false ?_ ?_; (focus simp [upd, c1, c2, g1, x0, z0, q1, q2, q3, q4, bne]; done))
    | (refine Tri.skip ?_; simp only [thenS, blockS])
    | (refine Tri.block_seq ?_)
    | (refine Tri.block_region ?_)
    | (refine Tri.block_cond ?_)
    | ((with_reducible refine CallK.pure (k1) (Wks.refl _) ?_); simp [upd, c1, c2, g1, x0, z0, q1, q2, q3, q4, bne])
    | ((with_reducible refine CallK.pure (k2) (Wks.refl _) ?_); simp [upd, c1, c2, g1, x0, z0, q1, q2, q3, q4, bne])
    | (refine Tri.exit ?_; simp [upd, c1, c2, g1, x0, z0, q1, q2, q3, q4, bne]; first | (rename ∀ st, Tri _ _ _ st _ → _ => hK; first | (apply hK; clear hK) | (clear hK; rename ∀ st, Tri _ _ _ st _ → _ => hK; first | (apply hK; clear hK) | (clear hK; rename ∀ st, Tri _ _ _ st _ → _ => hK; first | (apply hK; clear hK) | (clear hK; rename ∀ st, Tri _ _ _ st _ → _ => hK; first | (apply hK; clear hK) | (clear hK; rename ∀ st, Tri _ _ _ st _ → _ => hK; first | (apply hK; clear hK) | (clear hK; rename ∀ st, Tri _ _ _ st _ → _ => hK; apply hK; clear hK)))))) | skip)
    | (intro β)
    | (rename ∀ st, Tri _ _ _ st _ → _ => hK; apply hK; clear hK))
  refine Tri.ret ⟨_, by simp [upd] <;> exact rfl, ?_⟩
  refine .tup2 (.agg3 (.refl _) ?_ ?_) (.refl _)
  · rw [List.map_append]
    exact .untag _ _ _ _
  · rw [List.map_append]
    exact .untag _ _ _ _
end Go.Proofs.Ytcohdlochpjnjaa
end
section
open Go Go.Vm
namespace Go.Proofs.Ytcohdlochpjnjaa
set_option maxRecDepth 100000
set_option maxHeartbeats 4000000
set_option linter.unusedSimpArgs false
attribute [local irreducible] Tri Does DoesB Rounds check sameB fA fD
structure YI (r : Rec) (s : Int) (st : St) (b2 b4 b6 : Nat) (G H : C) : Prop where
  hn : st.n = 85
  s1 : st.sl 1 = .c (.int .i64 s)
  s2 : st.sl 2 = .c (.box 2 b2 0)
  x2 : st.bx 2 = some (b2, [.int .i64 r.slots, .sl r.an 8 none (r.atts.map attC), .sl r.dn 3 none (r.dels.map delC)])
  s4 : st.sl 4 = .c (.box 4 b4 0)
  x4 : st.bx 4 = some (b4, [.int .i64 0, .sl true 0 none [], .sl true 0 none []])
  s6 : st.sl 6 = .c (.box 6 b6 0)
  x6 : st.bx 6 = some (b6, [.int .i64 s, G, H])
def YInv1 (r : Rec) (s : Int) (m : Nat) (st : St) : Prop := ∃ b2 b4 b6 G i, YI r s st b2 b4 b6 G (.sl true 0 none []) ∧ m + i = r.atts.length ∧ st.sl 7 = .c (.int .i64 (i : Nat)) ∧ GC st G 51 45 8 ((fA s (r.atts.take i)).map attC)
def YInv2 (r : Rec) (s : Int) (m : Nat) (st : St) : Prop := ∃ b2 b4 b6 G H i, YI r s st b2 b4 b6 G H ∧ m + i = r.dels.length ∧ st.sl 8 = .c (.int .i64 (i : Nat)) ∧ GC st G 51 45 8 ((fA s r.atts).map attC) ∧ GC st H 81 62 3 ((fD s (r.dels.take i)).map delC)
theorem cutR_does (r : Rec) (s : Int) : Does Try.prog 31 [.agg (recC r), .c (.int .i64 s)] (.tup [.agg (recC (cut r s).1), .c (.int .i64 (cut r s).2)]) := by
  refine Does.of_body Try.func31 rfl (by kernel_rfl) rfl rfl (by simp) ?_
  intro E
  have hck := checkR_does r
  have wZ : Wk (.agg [.int .i64 0, .sl true 0 none [], .sl true 0 none []]) (.agg (recC zrec)) := .agg3 (.refl _) (.nil _ _ _ _) (.nil _ _ _ _)
  cases hc : (check r == 0)
  case false =>
    have e : cut r s = (zrec, 1) := by rw [cut, if_neg (by simpa using hc)]
    rw [e]
    simp only [recC] at hck ⊢
    repeat (first
      | (refine Tri.seq fun K hK => ?_)
      | (refine Tri.region ?_; simp [upd, hc, bne])
      | (refine Tri.draw (by kernel_rfl) (by decide +kernel) ?_; simp [upd, hc, bne])
      | (refine Tri.cond_true ?_ ?_; (focus simp [upd, hc, bne]; done))
      | (refine Tri.cond_false ?_ ?_; (focus simp [upd, hc, bne]; done))
      | (refine Tri.skip ?_; simp only [thenS, blockS])
      | (refine Tri.block_seq ?_)
      | (refine Tri.block_region ?_)
      | (refine Tri.block_cond ?_)
      | ((with_reducible refine CallK.pure (hck) (Wks.refl _) ?_); simp [upd, hc, bne])
      | (refine Tri.exit ?_; simp [upd, hc, bne]; first | (rename ∀ st, Tri _ _ _ st _ → _ => hK; first | (apply hK; clear hK) | (clear hK; rename ∀ st, Tri _ _ _ st _ → _ => hK; first | (apply hK; clear hK) | (clear hK; rename ∀ st, Tri _ _ _ st _ → _ => hK; first | (apply hK; clear hK) | (clear hK; rename ∀ st, Tri _ _ _ st _ → _ => hK; first | (apply hK; clear hK) | (clear hK; rename ∀ st, Tri _ _ _ st _ → _ => hK; first | (apply hK; clear hK) | (clear hK; rename ∀ st, Tri _ _ _ st _ → _ => hK; apply hK; clear hK)))))) | skip)
      | (intro β)
      | (rename ∀ st, Tri _ _ _ st _ → _ => hK; apply hK; clear hK))
    refine Tri.ret ⟨.tup [.agg [.int .i64 0, .sl true 0 none [], .sl true 0 none []], .c (.int .i64 1)], by simp [upd], ?_⟩
    exact .tup2 wZ (.refl _)
  have hc0 : check r = 0 := by simpa using hc
  by_cases g1 : s < 0
  · have e : cut r s = (zrec, 2) := by rw [cut, if_pos hc0, if_pos (.inl g1)]
    rw [e]
    simp only [recC] at hck ⊢
    repeat (first
      | (refine Tri.seq fun K hK => ?_)
      | (refine Tri.region ?_; simp [upd, hc, bne, g1])
      | (refine Tri.draw (by kernel_rfl) (by decide +kernel) ?_; simp [upd, hc, bne, g1])
      | (refine Tri.cond_true ?_ ?_; (focus simp [upd, hc, bne, g1]; done))
      | (refine Tri.cond_false ?_ ?_; (focus simp [upd, hc, bne, g1]; done))
      | (refine Tri.skip ?_; simp only [thenS, blockS])
      | (refine Tri.block_seq ?_)
      | (refine Tri.block_region ?_)
      | (refine Tri.block_cond ?_)
      | ((with_reducible refine CallK.pure (hck) (Wks.refl _) ?_); simp [upd, hc, bne, g1])
      | (refine Tri.exit ?_; simp [upd, hc, bne, g1]; first | (rename ∀ st, Tri _ _ _ st _ → _ => hK; first | (apply hK; clear hK) | (clear hK; rename ∀ st, Tri _ _ _ st _ → _ => hK; first | (apply hK; clear hK) | (clear hK; rename ∀ st, Tri _ _ _ st _ → _ => hK; first | (apply hK; clear hK) | (clear hK; rename ∀ st, Tri _ _ _ st _ → _ => hK; first | (apply hK; clear hK) | (clear hK; rename ∀ st, Tri _ _ _ st _ → _ => hK; first | (apply hK; clear hK) | (clear hK; rename ∀ st, Tri _ _ _ st _ → _ => hK; apply hK; clear hK)))))) | skip)
      | (intro β)
      | (rename ∀ st, Tri _ _ _ st _ → _ => hK; apply hK; clear hK))
    refine Tri.ret ⟨.tup [.agg [.int .i64 0, .sl true 0 none [], .sl true 0 none []], .c (.int .i64 2)], by simp [upd], ?_⟩
    exact .tup2 wZ (.refl _)
  by_cases g2 : r.slots < s
  · have e : cut r s = (zrec, 2) := by rw [cut, if_pos hc0, if_pos (.inr g2)]
    rw [e]
    simp only [recC] at hck ⊢
    repeat (first
      | (refine Tri.seq fun K hK => ?_)
      | (refine Tri.region ?_; simp [upd, hc, bne, g1, g2])
      | (refine Tri.draw (by kernel_rfl) (by decide +kernel) ?_; simp [upd, hc, bne, g1, g2])
      | (refine Tri.cond_true ?_ ?_; (focus simp [upd, hc, bne, g1, g2]; done))
      | (refine Tri.cond_false ?_ ?_; (focus simp [upd, hc, bne, g1, g2]; done))
      | (refine Tri.skip ?_; simp only [thenS, blockS])
      | (refine Tri.block_seq ?_)
      | (refine Tri.block_region ?_)
      | (refine Tri.block_cond ?_)
      | ((with_reducible refine CallK.pure (hck) (Wks.refl _) ?_); simp [upd, hc, bne, g1, g2])
      | (refine Tri.exit ?_; simp [upd, hc, bne, g1, g2]; first | (rename ∀ st, Tri _ _ _ st _ → _ => hK; first | (apply hK; clear hK) | (clear hK; rename ∀ st, Tri _ _ _ st _ → _ => hK; first | (apply hK; clear hK) | (clear hK; rename ∀ st, Tri _ _ _ st _ → _ => hK; first | (apply hK; clear hK) | (clear hK; rename ∀ st, Tri _ _ _ st _ → _ => hK; first | (apply hK; clear hK) | (clear hK; rename ∀ st, Tri _ _ _ st _ → _ => hK; first | (apply hK; clear hK) | (clear hK; rename ∀ st, Tri _ _ _ st _ → _ => hK; apply hK; clear hK)))))) | skip)
      | (intro β)
      | (rename ∀ st, Tri _ _ _ st _ → _ => hK; apply hK; clear hK))
    refine Tri.ret ⟨.tup [.agg [.int .i64 0, .sl true 0 none [], .sl true 0 none []], .c (.int .i64 2)], by simp [upd], ?_⟩
    exact .tup2 wZ (.refl _)
  have e : cut r s = (⟨s, (fA s r.atts).isEmpty, fA s r.atts, (fD s r.dels).isEmpty, fD s r.dels⟩, 0) := by rw [cut, if_pos hc0, if_neg (by omega)]
  rw [e]
  simp only [recC] at hck ⊢
  obtain ⟨hl1, hl2⟩ := check_lens hc0
  repeat (first
    | (refine Tri.seq fun K hK => ?_)
    | (refine Tri.region ?_; simp [upd, hc, bne, g1, g2])
    | (refine Tri.draw (by kernel_rfl) (by decide +kernel) ?_; simp [upd, hc, bne, g1, g2])
    | (refine Tri.cond_true ?_ ?_; (focus simp [upd, hc, bne, g1, g2]; done))
    | (refine Tri.cond_false ?_ ?_; (focus simp [upd, hc, bne, g1, g2]; done))
    | (refine Tri.skip ?_; simp only [thenS, blockS])
    | (refine Tri.block_seq ?_)
    | (refine Tri.block_region ?_)
    | (refine Tri.block_cond ?_)
    | ((with_reducible refine CallK.pure (hck) (Wks.refl _) ?_); simp [upd, hc, bne, g1, g2])
    | (refine Tri.exit ?_; simp [upd, hc, bne, g1, g2]; first | (rename ∀ st, Tri _ _ _ st _ → _ => hK; first | (apply hK; clear hK) | (clear hK; rename ∀ st, Tri _ _ _ st _ → _ => hK; first | (apply hK; clear hK) | (clear hK; rename ∀ st, Tri _ _ _ st _ → _ => hK; first | (apply hK; clear hK) | (clear hK; rename ∀ st, Tri _ _ _ st _ → _ => hK; first | (apply hK; clear hK) | (clear hK; rename ∀ st, Tri _ _ _ st _ → _ => hK; first | (apply hK; clear hK) | (clear hK; rename ∀ st, Tri _ _ _ st _ → _ => hK; apply hK; clear hK)))))) | skip)
    | (intro β)
    | (rename ∀ st, Tri _ _ _ st _ → _ => hK; apply hK; clear hK))
  rename ∀ st, Tri _ _ _ st _ → _ => hK
  have fin := fun (st : St) (h : ∃ b2 b4 b6 G, YI r s st b2 b4 b6 G (.sl true 0 none []) ∧ GC st G 51 45 8 ((fA s r.atts).map attC)) => hK st ?tail
  case tail =>
    obtain ⟨b2, b4, b6, G, ⟨hn, s1, s2, x2, s4, x4, s6, x6⟩, hG⟩ := h
    clear hK
    repeat (first
      | (refine Tri.seq fun K hK => ?_)
      | (refine Tri.region ?_; simp [upd, hn, s1, s2, x2, s4, x4, s6, x6])
      | (refine Tri.draw (by kernel_rfl) (by decide +kernel) ?_; simp [upd, hn, s1, s2, x2, s4, x4, s6, x6])
      | (refine Tri.cond_true ?_ ?_; (focus simp [upd, hn, s1, s2, x2, s4, x4, s6, x6]; done))
      | (refine Tri.cond_false ?_ ?_; (focus simp [upd, hn, s1, s2, x2, s4, x4, s6, x6]; done))
      | (refine Tri.skip ?_; simp only [thenS, blockS])
      | (refine Tri.block_seq ?_)
      | (refine Tri.block_region ?_)
      | (refine Tri.block_cond ?_)
      | (refine Tri.exit ?_; simp [upd, hn, s1, s2, x2, s4, x4, s6, x6]; first | (rename ∀ st, Tri _ _ _ st _ → _ => hK; first | (apply hK; clear hK) | (clear hK; rename ∀ st, Tri _ _ _ st _ → _ => hK; first | (apply hK; clear hK) | (clear hK; rename ∀ st, Tri _ _ _ st _ → _ => hK; first | (apply hK; clear hK) | (clear hK; rename ∀ st, Tri _ _ _ st _ → _ => hK; first | (apply hK; clear hK) | (clear hK; rename ∀ st, Tri _ _ _ st _ → _ => hK; first | (apply hK; clear hK) | (clear hK; rename ∀ st, Tri _ _ _ st _ → _ => hK; apply hK; clear hK)))))) | skip)
      | (intro β)
      | (rename ∀ st, Tri _ _ _ st _ → _ => hK; apply hK; clear hK))
    rename ∀ st, Tri _ _ _ st _ → _ => hK
    have fin2 := fun (st : St) (h : ∃ b2 b4 b6 G H, YI r s st b2 b4 b6 G H ∧ GC st G 51 45 8 ((fA s r.atts).map attC) ∧ GC st H 81 62 3 ((fD s r.dels).map delC)) => hK st ?tail
    case tail =>
      obtain ⟨b2, b4, b6, G, H, ⟨hn, s1, s2, x2, s4, x4, s6, x6⟩, hG, hH⟩ := h
      have wG : Wk (.c G) (.c (.sl (fA s r.atts).isEmpty 8 none ((fA s r.atts).map attC))) := by simpa using GC.wk hG
      have wH : Wk (.c H) (.c (.sl (fD s r.dels).isEmpty 3 none ((fD s r.dels).map delC))) := by simpa using GC.wk hH
      obtain ⟨nl1, n1, o1, es1, rfl⟩ := hG.sl
      obtain ⟨nl2, n2, o2, es2, rfl⟩ := hH.sl
      repeat (first
        | (refine Tri.seq fun K hK => ?_)
        | (refine Tri.region ?_; simp [upd, hn, s1, s2, x2, s4, x4, s6, x6])
        | (refine Tri.draw (by kernel_rfl) (by decide +kernel) ?_; simp [upd, hn, s1, s2, x2, s4, x4, s6, x6])
        | (refine Tri.cond_true ?_ ?_; (focus simp [upd, hn, s1, s2, x2, s4, x4, s6, x6]; done))
        | (refine Tri.cond_false ?_ ?_; (focus simp [upd, hn, s1, s2, x2, s4, x4, s6, x6]; done))
        | (refine Tri.skip ?_; simp only [thenS, blockS])
        | (refine Tri.block_seq ?_)
        | (refine Tri.block_region ?_)
        | (refine Tri.block_cond ?_)
        | (refine Tri.exit ?_; simp [upd, hn, s1, s2, x2, s4, x4, s6, x6]; first | (rename ∀ st, Tri _ _ _ st _ → _ => hK; first | (apply hK; clear hK) | (clear hK; rename ∀ st, Tri _ _ _ st _ → _ => hK; first | (apply hK; clear hK) | (clear hK; rename ∀ st, Tri _ _ _ st _ → _ => hK; first | (apply hK; clear hK) | (clear hK; rename ∀ st, Tri _ _ _ st _ → _ => hK; first | (apply hK; clear hK) | (clear hK; rename ∀ st, Tri _ _ _ st _ → _ => hK; first | (apply hK; clear hK) | (clear hK; rename ∀ st, Tri _ _ _ st _ → _ => hK; apply hK; clear hK)))))) | skip)
        | (intro β)
        | (rename ∀ st, Tri _ _ _ st _ → _ => hK; apply hK; clear hK))
      refine Tri.ret ⟨.tup [.agg [.int .i64 s, .sl nl1 n1 o1 es1, .sl nl2 n2 o2 es2], .c (.int .i64 0)], by simp [upd, s4], ?_⟩
      exact .tup2 (.agg3 (.refl _) wG wH) (.refl _)
    clear hK
    refine Tri.block (Tri.loop (YInv2 r s) r.dels.length ?_ ?_)
    · exact ⟨b2, b4, b6, G, .sl true 0 none [], 0, ⟨rfl, by simp [upd, s1], by simp [upd, s2], by simp [x2], by simp [upd, s4], by simp [x4], by simp [upd, s6], by simp [x6]⟩, rfl, by simp [upd], by simpa [GC] using hG, .inl ⟨by simp [fD], _, _, rfl⟩⟩
    · clear hn s1 s2 x2 s4 x4 s6 x6 hG
      rintro m st ⟨b2, b4, b6, G, H, i, ⟨hn, s1, s2, x2, s4, x4, s6, x6⟩, hm, s8, hG, hH⟩
      by_cases hi : i < r.dels.length
      case neg =>
        rw [List.take_of_length_le (by omega)] at hH
        repeat (first
          | (refine Tri.seq fun K hK => ?_)
          | (refine Tri.region ?_; simp [upd, hn, s1, s2, x2, s4, x4, s6, x6, s8, hi])
          | (refine Tri.draw (by kernel_rfl) (by decide +kernel) ?_; simp [upd, hn, s1, s2, x2, s4, x4, s6, x6, s8, hi])
          | (refine Tri.cond_true ?_ ?_; (focus simp [upd, hn, s1, s2, x2, s4, x4, s6, x6, s8, hi]; done))
          | (refine Tri.cond_false ?_ ?_; (focus simp [upd, hn, s1, s2, x2, s4, x4, s6, x6, s8, hi]; done))
          | (refine Tri.skip ?_; simp only [thenS, blockS])
          | (refine Tri.block_seq ?_)
          | (refine Tri.block_region ?_)
          | (refine Tri.block_cond ?_)
          | (refine Tri.exit ?_; simp [upd, hn, s1, s2, x2, s4, x4, s6, x6, s8, hi]; first | (rename ∀ st, Tri _ _ _ st _ → _ => hK; first | (apply hK; clear hK) | (clear hK; rename ∀ st, Tri _ _ _ st _ → _ => hK; first | (apply hK; clear hK) | (clear hK; rename ∀ st, Tri _ _ _ st _ → _ => hK; first | (apply hK; clear hK) | (clear hK; rename ∀ st, Tri _ _ _ st _ → _ => hK; first | (apply hK; clear hK) | (clear hK; rename ∀ st, Tri _ _ _ st _ → _ => hK; first | (apply hK; clear hK) | (clear hK; rename ∀ st, Tri _ _ _ st _ → _ => hK; apply hK; clear hK)))))) | skip)
          | (intro β)
          | (rename ∀ st, Tri _ _ _ st _ → _ => hK; apply hK; clear hK))
        apply fin2
        exact ⟨b2, b4, b6, G, H, ⟨rfl, by simp [upd, s1], by simp [upd, s2], by simp [x2], by simp [upd, s4], by simp [x4], by simp [upd, s6], by simp [x6]⟩, by simpa [GC] using hG, by simpa [GC] using hH⟩
      have hw : IntKind.i64.wrap ((i : Int) + 1) = (i : Int) + 1 := wrap_i64 (by omega) (by omega)
      have ht := fD_take s r.dels i hi
      have hle := fD_le s r.dels i
      by_cases hs : r.dels[i].slot < s
      case neg =>
        rw [if_neg hs, List.append_nil] at ht
        repeat (first
          | (refine Tri.seq fun K hK => ?_)
          | (refine Tri.region ?_; simp [upd, hn, s1, s2, x2, s4, x4, s6, x6, s8, hi, hw, hs])
          | (refine Tri.draw (by kernel_rfl) (by decide +kernel) ?_; simp [upd, hn, s1, s2, x2, s4, x4, s6, x6, s8, hi, hw, hs])
          | (refine Tri.draw2 [] [0, 1, 2, 3, 4, 5, 6, 7, 8, 9] [10, 11, 12, 13] [] (by kernel_rfl) (by kernel_rfl) (by decide) (by rfl) (by decide +kernel) ?_; simp [upd, hn, s1, s2, x2, s4, x4, s6, x6, s8, hi, hw, hs])
          | (refine Tri.cond_true ?_ ?_; (focus simp [upd, hn, s1, s2, x2, s4, x4, s6, x6, s8, hi, hw, hs]; done))
          | (refine Tri.cond_false ?_ ?_; (focus simp [upd, hn, s1, s2, x2, s4, x4, s6, x6, s8, hi, hw, hs]; done))
          | (refine Tri.skip ?_; simp only [thenS, blockS])
          | (refine Tri.block_seq ?_)
          | (refine Tri.block_region ?_)
          | (refine Tri.block_cond ?_)
          | (refine Tri.exit ?_; simp [upd, hn, s1, s2, x2, s4, x4, s6, x6, s8, hi, hw, hs]; first | (rename ∀ st, Tri _ _ _ st _ → _ => hK; first | (apply hK; clear hK) | (clear hK; rename ∀ st, Tri _ _ _ st _ → _ => hK; first | (apply hK; clear hK) | (clear hK; rename ∀ st, Tri _ _ _ st _ → _ => hK; first | (apply hK; clear hK) | (clear hK; rename ∀ st, Tri _ _ _ st _ → _ => hK; first | (apply hK; clear hK) | (clear hK; rename ∀ st, Tri _ _ _ st _ → _ => hK; first | (apply hK; clear hK) | (clear hK; rename ∀ st, Tri _ _ _ st _ → _ => hK; apply hK; clear hK)))))) | skip)
          | (intro β)
          | (rename ∀ st, Tri _ _ _ st _ → _ => hK; apply hK; clear hK))
        exact ⟨m - 1, by omega, b2, b4, b6, G, H, i + 1, ⟨rfl, by simp [upd, s1], by simp [upd, s2], by simp [x2], by simp [upd, s4], by simp [x4], by simp [upd, s6], by simp [x6]⟩, by omega, by simp [upd], by simpa [GC] using hG, by simpa [GC, ht] using hH⟩
      rw [if_pos hs] at ht
      generalize fD s (r.dels.take i) = acc at *
      rcases hH with ⟨hnil, k0, own, rfl⟩ | ⟨b, hne, rfl, hrw⟩
      · have hacc : acc = [] := by simpa using hnil
        subst hacc
        repeat (first
          | (refine Tri.seq fun K hK => ?_)
          | (refine Tri.region ?_; simp [upd, hn, s1, s2, x2, s4, x4, s6, x6, s8, hi, hw, hs])
          | (refine Tri.draw (by kernel_rfl) (by decide +kernel) ?_; simp [upd, hn, s1, s2, x2, s4, x4, s6, x6, s8, hi, hw, hs])
          | (refine Tri.draw2 [] [0, 1, 2, 3, 4, 5, 6, 7, 8, 9] [10, 11, 12, 13] [] (by kernel_rfl) (by kernel_rfl) (by decide) (by rfl) (by decide +kernel) ?_; simp [upd, hn, s1, s2, x2, s4, x4, s6, x6, s8, hi, hw, hs])
          | (refine Tri.cond_true ?_ ?_; (focus simp [upd, hn, s1, s2, x2, s4, x4, s6, x6, s8, hi, hw, hs]; done))
          | (refine Tri.cond_false ?_ ?_; (focus simp [upd, hn, s1, s2, x2, s4, x4, s6, x6, s8, hi, hw, hs]; done))
          | (refine Tri.skip ?_; simp only [thenS, blockS])
          | (refine Tri.block_seq ?_)
          | (refine Tri.block_region ?_)
          | (refine Tri.block_cond ?_)
          | (refine Tri.exit ?_; simp [upd, hn, s1, s2, x2, s4, x4, s6, x6, s8, hi, hw, hs]; first | (rename ∀ st, Tri _ _ _ st _ → _ => hK; first | (apply hK; clear hK) | (clear hK; rename ∀ st, Tri _ _ _ st _ → _ => hK; first | (apply hK; clear hK) | (clear hK; rename ∀ st, Tri _ _ _ st _ → _ => hK; first | (apply hK; clear hK) | (clear hK; rename ∀ st, Tri _ _ _ st _ → _ => hK; first | (apply hK; clear hK) | (clear hK; rename ∀ st, Tri _ _ _ st _ → _ => hK; first | (apply hK; clear hK) | (clear hK; rename ∀ st, Tri _ _ _ st _ → _ => hK; apply hK; clear hK)))))) | skip)
          | (intro β)
          | (rename ∀ st, Tri _ _ _ st _ → _ => hK; apply hK; clear hK))
        exact ⟨m - 1, by omega, b2, b4, b6, G, .sl false 3 (some (81, β)) ([r.dels[i]].map delC), i + 1, ⟨rfl, by simp [upd, s1], by simp [upd, s2], by simp [x2], by simp [upd, s4], by simp [x4], by simp [upd, s6], by simp [x6] <;> exact rfl⟩, by omega, by simp [upd], by simpa [GC, upd] using hG, .inr ⟨β, by simp [ht], by simp [ht], by simp [ht, upd]⟩⟩
      · have hb : (acc.length + 1) * 24 ≤ 140737488355328 := by omega
        rw [List.length_map] at hrw
        repeat (first
          | (refine Tri.seq fun K hK => ?_)
          | (refine Tri.region ?_; simp [upd, hn, s1, s2, x2, s4, x4, s6, x6, s8, hi, hw, hs, hb, hrw])
          | (refine Tri.draw (by kernel_rfl) (by decide +kernel) ?_; simp [upd, hn, s1, s2, x2, s4, x4, s6, x6, s8, hi, hw, hs, hb, hrw])
          | (refine Tri.draw2 [] [0, 1, 2, 3, 4, 5, 6, 7, 8, 9] [10, 11, 12, 13] [] (by kernel_rfl) (by kernel_rfl) (by decide) (by rfl) (by decide +kernel) ?_; simp [upd, hn, s1, s2, x2, s4, x4, s6, x6, s8, hi, hw, hs, hb, hrw])
          | (refine Tri.cond_true ?_ ?_; (focus simp [upd, hn, s1, s2, x2, s4, x4, s6, x6, s8, hi, hw, hs, hb, hrw]; done))
          | (refine Tri.cond_false ?_ ?_; (focus simp [upd, hn, s1, s2, x2, s4, x4, s6, x6, s8, hi, hw, hs, hb, hrw]; done))
          | (refine Tri.skip ?_; simp only [thenS, blockS])
          | (refine Tri.block_seq ?_)
          | (refine Tri.block_region ?_)
          | (refine Tri.block_cond ?_)
          | (refine Tri.exit ?_; simp [upd, hn, s1, s2, x2, s4, x4, s6, x6, s8, hi, hw, hs, hb, hrw]; first | (rename ∀ st, Tri _ _ _ st _ → _ => hK; first | (apply hK; clear hK) | (clear hK; rename ∀ st, Tri _ _ _ st _ → _ => hK; first | (apply hK; clear hK) | (clear hK; rename ∀ st, Tri _ _ _ st _ → _ => hK; first | (apply hK; clear hK) | (clear hK; rename ∀ st, Tri _ _ _ st _ → _ => hK; first | (apply hK; clear hK) | (clear hK; rename ∀ st, Tri _ _ _ st _ → _ => hK; first | (apply hK; clear hK) | (clear hK; rename ∀ st, Tri _ _ _ st _ → _ => hK; apply hK; clear hK)))))) | skip)
          | (intro β)
          | (rename ∀ st, Tri _ _ _ st _ → _ => hK; apply hK; clear hK))
        exact ⟨m - 1, by omega, b2, b4, b6, G, .sl false 3 (some (81, β)) ((acc ++ [r.dels[i]]).map delC), i + 1, ⟨rfl, by simp [upd, s1], by simp [upd, s2], by simp [x2], by simp [upd, s4], by simp [x4], by simp [upd, s6], by simp [x6] <;> exact rfl⟩, by omega, by simp [upd], by simpa [GC, upd] using hG, .inr ⟨β, by simp [ht], by simp [ht], by simp [ht, upd]⟩⟩
  clear hK
  refine Tri.block (Tri.loop (YInv1 r s) r.atts.length ?_ ?_)
  · exact ⟨_, _, _, .sl true 0 none [], 0, ⟨rfl, by simp [upd], by simp [upd] <;> exact rfl, by simp [upd] <;> exact rfl, by simp [upd] <;> exact rfl, by simp [upd] <;> exact rfl, by simp [upd] <;> exact rfl, by simp [upd] <;> exact rfl⟩, rfl, by simp [upd], .inl ⟨by simp [fA], _, _, rfl⟩⟩
  · rintro m st ⟨b2, b4, b6, G, i, ⟨hn, s1, s2, x2, s4, x4, s6, x6⟩, hm, s7, hG⟩
    by_cases hi : i < r.atts.length
    case neg =>
      rw [List.take_of_length_le (by omega)] at hG
      repeat (first
        | (refine Tri.seq fun K hK => ?_)
        | (refine Tri.region ?_; simp [upd, hn, s1, s2, x2, s4, x4, s6, x6, s7, hi])
        | (refine Tri.draw (by kernel_rfl) (by decide +kernel) ?_; simp [upd, hn, s1, s2, x2, s4, x4, s6, x6, s7, hi])
        | (refine Tri.cond_true ?_ ?_; (focus simp [upd, hn, s1, s2, x2, s4, x4, s6, x6, s7, hi]; done))
        | (refine Tri.cond_false ?_ ?_; (focus simp [upd, hn, s1, s2, x2, s4, x4, s6, x6, s7, hi]; done))
        | (refine Tri.skip ?_; simp only [thenS, blockS])
        | (refine Tri.block_seq ?_)
        | (refine Tri.block_region ?_)
        | (refine Tri.block_cond ?_)
        | (refine Tri.exit ?_; simp [upd, hn, s1, s2, x2, s4, x4, s6, x6, s7, hi]; first | (rename ∀ st, Tri _ _ _ st _ → _ => hK; first | (apply hK; clear hK) | (clear hK; rename ∀ st, Tri _ _ _ st _ → _ => hK; first | (apply hK; clear hK) | (clear hK; rename ∀ st, Tri _ _ _ st _ → _ => hK; first | (apply hK; clear hK) | (clear hK; rename ∀ st, Tri _ _ _ st _ → _ => hK; first | (apply hK; clear hK) | (clear hK; rename ∀ st, Tri _ _ _ st _ → _ => hK; first | (apply hK; clear hK) | (clear hK; rename ∀ st, Tri _ _ _ st _ → _ => hK; apply hK; clear hK)))))) | skip)
        | (intro β)
        | (rename ∀ st, Tri _ _ _ st _ → _ => hK; apply hK; clear hK))
      apply fin
      exact ⟨b2, b4, b6, G, ⟨rfl, by simp [upd, s1], by simp [upd, s2], by simp [x2], by simp [upd, s4], by simp [x4], by simp [upd, s6], by simp [x6]⟩, by simpa [GC] using hG⟩
    have hw : IntKind.i64.wrap ((i : Int) + 1) = (i : Int) + 1 := wrap_i64 (by omega) (by omega)
    have ht := fA_take s r.atts i hi
    have hle := fA_le s r.atts i
    by_cases hs : r.atts[i].slot < s
    case neg =>
      rw [if_neg hs, List.append_nil] at ht
      repeat (first
        | (refine Tri.seq fun K hK => ?_)
        | (refine Tri.region ?_; simp [upd, hn, s1, s2, x2, s4, x4, s6, x6, s7, hi, hw, hs])
        | (refine Tri.draw (by kernel_rfl) (by decide +kernel) ?_; simp [upd, hn, s1, s2, x2, s4, x4, s6, x6, s7, hi, hw, hs])
        | (refine Tri.draw2 [] [0, 1, 2, 3, 4, 5, 6, 7, 8, 9] [10, 11, 12, 13] [] (by kernel_rfl) (by kernel_rfl) (by decide) (by rfl) (by decide +kernel) ?_; simp [upd, hn, s1, s2, x2, s4, x4, s6, x6, s7, hi, hw, hs])
        | (refine Tri.cond_true ?_ ?_; (focus simp [upd, hn, s1, s2, x2, s4, x4, s6, x6, s7, hi, hw, hs]; done))
        | (refine Tri.cond_false ?_ ?_; (focus simp [upd, hn, s1, s2, x2, s4, x4, s6, x6, s7, hi, hw, hs]; done))
        | (refine Tri.skip ?_; simp only [thenS, blockS])
        | (refine Tri.block_seq ?_)
        | (refine Tri.block_region ?_)
        | (refine Tri.block_cond ?_)
        | (refine Tri.exit ?_; simp [upd, hn, s1, s2, x2, s4, x4, s6, x6, s7, hi, hw, hs]; first | (rename ∀ st, Tri _ _ _ st _ → _ => hK; first | (apply hK; clear hK) | (clear hK; rename ∀ st, Tri _ _ _ st _ → _ => hK; first | (apply hK; clear hK) | (clear hK; rename ∀ st, Tri _ _ _ st _ → _ => hK; first | (apply hK; clear hK) | (clear hK; rename ∀ st, Tri _ _ _ st _ → _ => hK; first | (apply hK; clear hK) | (clear hK; rename ∀ st, Tri _ _ _ st _ → _ => hK; first | (apply hK; clear hK) | (clear hK; rename ∀ st, Tri _ _ _ st _ → _ => hK; apply hK; clear hK)))))) | skip)
        | (intro β)
        | (rename ∀ st, Tri _ _ _ st _ → _ => hK; apply hK; clear hK))
      exact ⟨m - 1, by omega, b2, b4, b6, G, i + 1, ⟨rfl, by simp [upd, s1], by simp [upd, s2], by simp [x2], by simp [upd, s4], by simp [x4], by simp [upd, s6], by simp [x6]⟩, by omega, by simp [upd], by simpa [GC, ht] using hG⟩
    rw [if_pos hs] at ht
    generalize fA s (r.atts.take i) = acc at *
    rcases hG with ⟨hnil, k0, own, rfl⟩ | ⟨b, hne, rfl, hrw⟩
    · have hacc : acc = [] := by simpa using hnil
      subst hacc
      repeat (first
        | (refine Tri.seq fun K hK => ?_)
        | (refine Tri.region ?_; simp [upd, hn, s1, s2, x2, s4, x4, s6, x6, s7, hi, hw, hs])
        | (refine Tri.draw (by kernel_rfl) (by decide +kernel) ?_; simp [upd, hn, s1, s2, x2, s4, x4, s6, x6, s7, hi, hw, hs])
        | (refine Tri.draw2 [] [0, 1, 2, 3, 4, 5, 6, 7, 8, 9] [10, 11, 12, 13] [] (by kernel_rfl) (by kernel_rfl) (by decide) (by rfl) (by decide +kernel) ?_; simp [upd, hn, s1, s2, x2, s4, x4, s6, x6, s7, hi, hw, hs])
        | (refine Tri.cond_true ?_ ?_; (focus simp [upd, hn, s1, s2, x2, s4, x4, s6, x6, s7, hi, hw, hs]; done))
        | (refine Tri.cond_false ?_ ?_; (focus simp [upd, hn, s1, s2, x2, s4, x4, s6, x6, s7, hi, hw, hs]; done))
        | (refine Tri.skip ?_; simp only [thenS, blockS])
        | (refine Tri.block_seq ?_)
        | (refine Tri.block_region ?_)
        | (refine Tri.block_cond ?_)
        | (refine Tri.exit ?_; simp [upd, hn, s1, s2, x2, s4, x4, s6, x6, s7, hi, hw, hs]; first | (rename ∀ st, Tri _ _ _ st _ → _ => hK; first | (apply hK; clear hK) | (clear hK; rename ∀ st, Tri _ _ _ st _ → _ => hK; first | (apply hK; clear hK) | (clear hK; rename ∀ st, Tri _ _ _ st _ → _ => hK; first | (apply hK; clear hK) | (clear hK; rename ∀ st, Tri _ _ _ st _ → _ => hK; first | (apply hK; clear hK) | (clear hK; rename ∀ st, Tri _ _ _ st _ → _ => hK; first | (apply hK; clear hK) | (clear hK; rename ∀ st, Tri _ _ _ st _ → _ => hK; apply hK; clear hK)))))) | skip)
        | (intro β)
        | (rename ∀ st, Tri _ _ _ st _ → _ => hK; apply hK; clear hK))
      exact ⟨m - 1, by omega, b2, b4, b6, .sl false 8 (some (51, β)) ([r.atts[i]].map attC), i + 1, ⟨rfl, by simp [upd, s1], by simp [upd, s2], by simp [x2], by simp [upd, s4], by simp [x4], by simp [upd, s6], by simp [x6] <;> exact rfl⟩, by omega, by simp [upd], .inr ⟨β, by simp [ht], by simp [ht], by simp [ht, upd]⟩⟩
    · have hb : (acc.length + 1) * 64 ≤ 140737488355328 := by omega
      rw [List.length_map] at hrw
      repeat (first
        | (refine Tri.seq fun K hK => ?_)
        | (refine Tri.region ?_; simp [upd, hn, s1, s2, x2, s4, x4, s6, x6, s7, hi, hw, hs, hb, hrw])
        | (refine Tri.draw (by kernel_rfl) (by decide +kernel) ?_; simp [upd, hn, s1, s2, x2, s4, x4, s6, x6, s7, hi, hw, hs, hb, hrw])
        | (refine Tri.draw2 [] [0, 1, 2, 3, 4, 5, 6, 7, 8, 9] [10, 11, 12, 13] [] (by kernel_rfl) (by kernel_rfl) (by decide) (by rfl) (by decide +kernel) ?_; simp [upd, hn, s1, s2, x2, s4, x4, s6, x6, s7, hi, hw, hs, hb, hrw])
        | (refine Tri.cond_true ?_ ?_; (focus simp [upd, hn, s1, s2, x2, s4, x4, s6, x6, s7, hi, hw, hs, hb, hrw]; done))
        | (refine Tri.cond_false ?_ ?_; (focus simp [upd, hn, s1, s2, x2, s4, x4, s6, x6, s7, hi, hw, hs, hb, hrw]; done))
        | (refine Tri.skip ?_; simp only [thenS, blockS])
        | (refine Tri.block_seq ?_)
        | (refine Tri.block_region ?_)
        | (refine Tri.block_cond ?_)
        | (refine Tri.exit ?_; simp [upd, hn, s1, s2, x2, s4, x4, s6, x6, s7, hi, hw, hs, hb, hrw]; first | (rename ∀ st, Tri _ _ _ st _ → _ => hK; first | (apply hK; clear hK) | (clear hK; rename ∀ st, Tri _ _ _ st _ → _ => hK; first | (apply hK; clear hK) | (clear hK; rename ∀ st, Tri _ _ _ st _ → _ => hK; first | (apply hK; clear hK) | (clear hK; rename ∀ st, Tri _ _ _ st _ → _ => hK; first | (apply hK; clear hK) | (clear hK; rename ∀ st, Tri _ _ _ st _ → _ => hK; first | (apply hK; clear hK) | (clear hK; rename ∀ st, Tri _ _ _ st _ → _ => hK; apply hK; clear hK)))))) | skip)
        | (intro β)
        | (rename ∀ st, Tri _ _ _ st _ → _ => hK; apply hK; clear hK))
      exact ⟨m - 1, by omega, b2, b4, b6, .sl false 8 (some (51, β)) ((acc ++ [r.atts[i]]).map attC), i + 1, ⟨rfl, by simp [upd, s1], by simp [upd, s2], by simp [x2], by simp [upd, s4], by simp [x4], by simp [upd, s6], by simp [x6] <;> exact rfl⟩, by omega, by simp [upd], .inr ⟨β, by simp [ht], by simp [ht], by simp [ht, upd]⟩⟩
theorem cuts_does (a b : Rec) (s : Int) (ha1 : a.an = true → a.atts = []) (ha2 : a.dn = true → a.dels = []) (hb1 : b.an = true → b.atts = []) (hb2 : b.dn = true → b.dels = []) : Does Try.prog 8 [.agg (recC a), .agg (recC b), .c (.int .i64 s)] (.c (.bool true)) := by
  have l0 := awake_does
  have l1 := few_does a
  have l1' := few_does b
  refine Does.of_body Try.func8 rfl (by kernel_rfl) rfl rfl (by simp) ?_
  intro E
  cases hf : (decide (a.atts.length ≤ 150) && decide (a.dels.length ≤ 100))
  case false =>
    rw [hf] at l1
    simp only [recC] at l1 l1' ⊢
    repeat (first
      | (refine Tri.seq fun K hK => ?_)
      | (refine Tri.region ?_; simp [upd])
      | (refine Tri.draw (by kernel_rfl) (by decide +kernel) ?_; simp [upd])
      | (refine Tri.cond_true ?_ ?_; (focus simp [upd]; done))
      | (refine Tri.cond_false ?_ ?_; (focus simp [upd]; done))
      | (refine Tri.skip ?_; simp only [thenS, blockS])
      | (refine Tri.block_seq ?_)
      | (refine Tri.block_region ?_)
      | (refine Tri.block_cond ?_)
      | ((with_reducible refine CallK.pure (l0) (Wks.refl _) ?_); simp [upd])
      | ((with_reducible refine CallK.pure (l1) (Wks.refl _) ?_); simp [upd])
      | (refine Tri.exit ?_; simp [upd]; first | (rename ∀ st, Tri _ _ _ st _ → _ => hK; first | (apply hK; clear hK) | (clear hK; rename ∀ st, Tri _ _ _ st _ → _ => hK; first | (apply hK; clear hK) | (clear hK; rename ∀ st, Tri _ _ _ st _ → _ => hK; first | (apply hK; clear hK) | (clear hK; rename ∀ st, Tri _ _ _ st _ → _ => hK; first | (apply hK; clear hK) | (clear hK; rename ∀ st, Tri _ _ _ st _ → _ => hK; first | (apply hK; clear hK) | (clear hK; rename ∀ st, Tri _ _ _ st _ → _ => hK; apply hK; clear hK)))))) | skip)
      | (intro β)
      | (rename ∀ st, Tri _ _ _ st _ → _ => hK; apply hK; clear hK))
    refine Tri.ret ⟨_, rfl, ?_⟩
    simp [upd]
    exact Wk.refl _
  cases hf' : (decide (b.atts.length ≤ 150) && decide (b.dels.length ≤ 100))
  case false =>
    rw [hf] at l1
    rw [hf'] at l1'
    simp only [recC] at l1 l1' ⊢
    repeat (first
      | (refine Tri.seq fun K hK => ?_)
      | (refine Tri.region ?_; simp [upd])
      | (refine Tri.draw (by kernel_rfl) (by decide +kernel) ?_; simp [upd])
      | (refine Tri.cond_true ?_ ?_; (focus simp [upd]; done))
      | (refine Tri.cond_false ?_ ?_; (focus simp [upd]; done))
      | (refine Tri.skip ?_; simp only [thenS, blockS])
      | (refine Tri.block_seq ?_)
      | (refine Tri.block_region ?_)
      | (refine Tri.block_cond ?_)
      | ((with_reducible refine CallK.pure (l0) (Wks.refl _) ?_); simp [upd])
      | ((with_reducible refine CallK.pure (l1) (Wks.refl _) ?_); simp [upd])
      | ((with_reducible refine CallK.pure (l1') (Wks.refl _) ?_); simp [upd])
      | (refine Tri.exit ?_; simp [upd]; first | (rename ∀ st, Tri _ _ _ st _ → _ => hK; first | (apply hK; clear hK) | (clear hK; rename ∀ st, Tri _ _ _ st _ → _ => hK; first | (apply hK; clear hK) | (clear hK; rename ∀ st, Tri _ _ _ st _ → _ => hK; first | (apply hK; clear hK) | (clear hK; rename ∀ st, Tri _ _ _ st _ → _ => hK; first | (apply hK; clear hK) | (clear hK; rename ∀ st, Tri _ _ _ st _ → _ => hK; first | (apply hK; clear hK) | (clear hK; rename ∀ st, Tri _ _ _ st _ → _ => hK; apply hK; clear hK)))))) | skip)
      | (intro β)
      | (rename ∀ st, Tri _ _ _ st _ → _ => hK; apply hK; clear hK))
    refine Tri.ret ⟨_, rfl, ?_⟩
    simp [upd]
    exact Wk.refl _
  rw [hf] at l1
  rw [hf'] at l1'
  simp only [Bool.and_eq_true, decide_eq_true_eq] at hf hf'
  have l2 := cp_does a ⟨ha1, ha2, by omega, by omega⟩
  have l2' := cp_does b ⟨hb1, hb2, by omega, by omega⟩
  have l3 := cut_does a s
  have l4 := cutR_does a s
  have l5 := join_does a b (by omega) (by omega) (by omega) (by omega)
  have l6 := joinR_does a b (by omega) (by omega) (by omega) (by omega)
  have hcl : (cut a s).1.atts.length ≤ 1073741824 ∧ (cut a s).1.dels.length ≤ 1073741824 := by
    unfold cut
    split
    · split
      · simp [zrec]
      · have h1 : (fA s a.atts).length ≤ a.atts.length := by unfold fA; exact List.length_filter_le ..
        have h2 : (fD s a.dels).length ≤ a.dels.length := by unfold fD; exact List.length_filter_le ..
        simp only; omega
    · simp [zrec]
  have hjl : (join a b).1.atts.length ≤ 1073741824 ∧ (join a b).1.dels.length ≤ 1073741824 := by
    unfold join
    split
    · split
      · simp [zrec]
      · simp; omega
    · simp [zrec]
  have hje : (join a b).1.slots = (joinR a b).1.slots ∧ (join a b).1.atts = (joinR a b).1.atts ∧ (join a b).1.dels = (joinR a b).1.dels ∧ (join a b).2 = (joinR a b).2 := by
    unfold join joinR
    split
    · split <;> exact ⟨rfl, rfl, rfl, rfl⟩
    · exact ⟨rfl, rfl, rfl, rfl⟩
  have l7 := same_does (cut a s).1 (cut a s).1 hcl.1 hcl.2
  rw [(sameB_iff (cut a s).1 (cut a s).1).2 ⟨rfl, rfl, rfl⟩] at l7
  have l8 := same_does (join a b).1 (joinR a b).1 hjl.1 hjl.2
  rw [(sameB_iff (join a b).1 (joinR a b).1).2 ⟨hje.1, hje.2.1, hje.2.2.1⟩] at l8
  rw [← hje.2.2.2] at l6
  generalize (cut a s).2 = e1 at *
  generalize (cut a s).1 = x1 at *
  generalize (join a b).2 = e2 at *
  generalize (join a b).1 = x2 at *
  generalize (joinR a b).1 = x3 at *
  simp only [recC] at l1 l1' l2 l2' l3 l4 l5 l6 l7 l8 ⊢
  repeat (first
    | (refine Tri.seq fun K hK => ?_)
    | (refine Tri.region ?_; simp [upd])
    | (refine Tri.draw (by kernel_rfl) (by decide +kernel) ?_; simp [upd])
    | (refine Tri.draw2 [11] [0, 1, 2, 3, 4, 5, 6, 7] [8, 9, 10] [] (by kernel_rfl) (by kernel_rfl) (by decide) (by rfl) (by decide +kernel) ?_; simp [upd])
    | (refine Tri.cond_true ?_ ?_; (focus simp [upd]; done))
    | (refine Tri.cond_false ?_ ?_; (focus simp [upd]; done))
    | (refine Tri.skip ?_; simp only [thenS, blockS])
    | (refine Tri.block_seq ?_)
    | (refine Tri.block_region ?_)
    | (refine Tri.block_cond ?_)
    | ((with_reducible refine CallK.pure (l0) (Wks.refl _) ?_); simp [upd])
    | ((with_reducible refine CallK.pure (l1) (Wks.refl _) ?_); simp [upd])
    | ((with_reducible refine CallK.pure (l1') (Wks.refl _) ?_); simp [upd])
    | ((with_reducible refine CallK.pure (l2) (Wks.refl _) ?_); simp [upd])
    | ((with_reducible refine CallK.pure (l2') (Wks.refl _) ?_); simp [upd])
    | ((with_reducible refine CallK.pure (l3) (Wks.refl _) ?_); simp [upd])
    | ((with_reducible refine CallK.pure (l4) (Wks.refl _) ?_); simp [upd])
    | ((with_reducible refine CallK.pure (l5) (Wks.refl _) ?_); simp [upd])
    | ((with_reducible refine CallK.pure (l6) (Wks.refl _) ?_); simp [upd])
    | ((with_reducible refine CallK.pure (l7) (Wks.refl _) ?_); simp [upd])
    | ((with_reducible refine CallK.pure (l8) (Wks.refl _) ?_); simp [upd])
    | (refine Tri.exit ?_; simp [upd]; first | (rename ∀ st, Tri _ _ _ st _ → _ => hK; first | (apply hK; clear hK) | (clear hK; rename ∀ st, Tri _ _ _ st _ → _ => hK; first | (apply hK; clear hK) | (clear hK; rename ∀ st, Tri _ _ _ st _ → _ => hK; first | (apply hK; clear hK) | (clear hK; rename ∀ st, Tri _ _ _ st _ → _ => hK; first | (apply hK; clear hK) | (clear hK; rename ∀ st, Tri _ _ _ st _ → _ => hK; first | (apply hK; clear hK) | (clear hK; rename ∀ st, Tri _ _ _ st _ → _ => hK; apply hK; clear hK)))))) | skip)
    | (intro β)
    | (rename ∀ st, Tri _ _ _ st _ → _ => hK; apply hK; clear hK))
  refine Tri.ret ⟨_, rfl, ?_⟩
  simp [upd]
  exact Wk.refl _
end Go.Proofs.Ytcohdlochpjnjaa
end
section
open Go Go.Vm
open Go.ChangeShapes Go.WideShapes Go.ChangeAt Go.RowKit
namespace Go.Proofs.Ytcohdlochpjnjaa.recordCuts
set_option linter.unusedVariables false
theorem own : ownKnob Try.prog.godebug = none := by kernel_rfl
set_option maxRecDepth 100000 in
theorem lifted (os : Os) (started : os.Started) (H : Type) (enc : TypeId × Value → H) :
    ReturnsInHanded {} Try.checked os 8 .any (Rows.recordCutsSpec.pre6 enc Try.prog Try.f8 Rows.recordCutsRow.domain false) (Rows.recordCutsSpec.post enc Try.prog Try.f8 false true false false) := by
  refine returnsInHanded_of_change (C := Try.checked) own started (by kernel_rfl) Try.func8
    (ChangeSpec.witness6 (enc := enc) (C := Try.checked) false ⟨#[], #[.agg #[.int .i64 0, .slice none 0 0, .slice none 0 0], .agg #[.int .i64 0, .slice none 0 0, .slice none 0 0], .int .i64 0], []⟩ 8 (by kernel_rfl) (by kernel_rfl) (by kernel_rfl) (by kernel_rfl)) ?_
  intro W base args ds gs before hval0 hW hcnd _
  have hval : ∀ (j : Nat) t v, Try.f8.params[j]? = some t → args[j]? = some v → Value.okWide Try.prog W .any base t v := hval0
  have hW' := hW
  obtain ⟨p, q, hA0, hV, rfl, hfz, hnd⟩ := hW
  have hA : DataW.TrodAll enc Try.prog W 0 (fun _ => true) true Try.f8.params.toList args.toList ds p := hA0
  rw [Try.params8] at hA hval
  obtain ⟨v0, vs0, d0, ds0, p0, q0, hargs0, rfl, rfl, h0, r0⟩ := trodAll_cons hA
  obtain ⟨v1, vs1, d1, ds1, p1, q1, hargs1, rfl, rfl, h1, r1⟩ := trodAll_cons r0
  subst hargs1
  obtain ⟨v2, vs2, d2, ds2, p2, q2, hargs2, rfl, rfl, h2, r2⟩ := trodAll_cons r1
  subst hargs2
  obtain ⟨rfl, rfl, rfl⟩ := trodAll_nil r2
  obtain rfl : args = #[v0, v1, v2] := by cases args; simp_all
  obtain ⟨rfl, rfl⟩ := trodVars_none hV
  obtain ⟨a, haa, had, hal, ham, hv0⟩ := open_rec (hval 0 28 v0 rfl rfl) h0
  obtain ⟨b, hba, hbd, hbl, hbm, hv1⟩ := open_rec (hval 1 28 v1 rfl rfl) h1
  obtain ⟨s, rfl, rfl, rfl, w2⟩ := open_int (k := .i64) (by kernel_rfl) (hval 2 3 v2 rfl rfl) h2
  have hs : -9223372036854775808 ≤ s ∧ s < 9223372036854775808 := by
    have := w2
    simp [Lit.wf, IntKind.min, IntKind.max, IntKind.signed, IntKind.bits] at this
    omega
  clear hA0 hval0
  simp only [List.append_nil] at hW'
  have hlt := hW'.lt
  have hD := (cuts_does a b s haa had hba hbd).2 (fun b _ => b < W.heap.size) W [v0, v1, .int .i64 s] ⟨rfl, fun k hk => match k, hk with
    | 0, _ => hv0
    | 1, _ => hv1
    | 2, _ => .c (.int _ _)⟩ (fun b _ h => h)
  refine hD.mono fun e W' ⟨u, F', he, hu, hl⟩ => ?_
  subst he
  have hb : Below W.heap.size W W' := ⟨hl.os, hl.tape, hl.output, hl.size, hl.block⟩
  have hu' := hu.inv
  cases hu'
  have hsame0 : ∀ p ∈ p0, W.sameAt W' p := fun p hp => hb.same (hlt p (by simp [hp]))
  have hsame1 : ∀ p ∈ p1, W.sameAt W' p := fun p hp => hb.same (hlt p (by simp [hp]))
  exact ⟨_, rfl, post_below (pa := (p0 ++ (p1 ++ ([] ++ [])))) (pv := []) hW' hb (by simp) (fun _ _ _ => (trodAll_cons_mk (shut_bool Try.underlying4 _) trodAll_mk0))
    (fun sp hsp => (trodAll_cons_mk (WideElems.Trod_stays (by kernel_rfl) (by kernel_rfl) (by decide +kernel) h0 hsame0 fun p hp => hsp p (by simp [hp])) (trodAll_cons_mk (WideElems.Trod_stays (by kernel_rfl) (by kernel_rfl) (by decide +kernel) h1 hsame1 fun p hp => hsp p (by simp [hp])) (trodAll_cons_mk (shut_int (by kernel_rfl) w2) trodAll_mk0))))
    (fun _ _ => rfl) (ok_one (by kernel_rfl) rfl (okWide_bool_mk Try.underlying4 _))⟩
theorem over : Rows.recordCutsRow.holds Try.pinned (OpenSpec.ofChange Rows.recordCutsSpec) :=
  OpenClaim.holds_of_wide 8 Try.f8 rfl rfl rfl rfl rfl rfl rfl ⟨rfl, rfl, rfl, rfl, rfl⟩ rfl rfl rfl rfl rfl (by kernel_rfl) Try.func8 (by kernel_rfl)
    (of_decide_eq_true (by kernel_rfl)) (by unfold Func.isWrapper; first | (rw [if_pos (by decide +kernel)]; kernel_rfl) | (rw [if_neg (by decide +kernel)]; exact ⟨rfl, rfl⟩))
    (fun os started H enc _ => lifted os started H enc)
theorem proved : Rows.RecordCutsSaid :=
  over
end Go.Proofs.Ytcohdlochpjnjaa.recordCuts
end
