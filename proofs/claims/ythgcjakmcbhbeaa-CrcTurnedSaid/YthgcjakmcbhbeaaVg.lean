/- A part of an evaluator of loaded programs and of the proof that it is right. Conditions: none. -/
import Derived.Test.YthgcjakmcbhbeaaVf
import Derived.Laws.LoneSync
import Derived.Test.YthgcjakmcbhbeaaVa
import Derived.KernelRfl
import Derived.Orders
import Derived.RangeFuncOwn
set_option linter.unusedVariables false
set_option linter.unusedSimpArgs false
/- One object alone: a contract that is shown where there is nothing but it holds wherever it lies. Objects whose cells are numbers, seen as a whole. -/
set_option linter.unusedVariables false
set_option linter.unusedSimpArgs false
namespace Go.Vm
open Go.RowKit (Below)
variable {P : Program} {cf : CallK} {cfg : Cfg} {A : AbsR} {e : Env} {w : World}
theorem Invokes.mono {g : FuncId} {vs : Array Value} {R R' : Value → World → Prop} (h : Invokes P g vs w R) (hr : ∀ v w', R v w' → R' v w') : Invokes P g vs w R' :=
  fun o a next Q hk => h o a next Q fun v w' hx => hk v w' (hr v w' hx)
theorem Invokes.of_value {g : FuncId} {vs : Array Value} {R : Value → World → Prop} {v : Value} {w' : World} (h : (callFunc g vs).run P w = .ok (.value v) w') (hr : R v w') : Invokes P g vs w R := by
  intro o a next Q hk
  rw [h]
  exact hk v w' hr
def rsOf (S : Stack) : RS := { fr := fun _ => .undef, als := noAls, H := S, wr := [], lds := noLds }
def noPtrOb : Ob → Bool
  | .cells cs => noPtr.noPtrs cs
  | .abs _ _ => true
  | .map _ => true
theorem noPtrs_get : ∀ {as : List AV}, noPtr.noPtrs as = true → ∀ (i : Nat) (a : AV), as[i]? = some a → noPtr a = true
  | [], _, i, a, h => by simp at h
  | x :: r, hn, i, a, h => by
    simp only [noPtr.noPtrs, Bool.and_eq_true] at hn
    cases i with
    | zero => simp at h; subst h; exact hn.1
    | succ i => exact noPtrs_get hn.2 i a (by simpa using h)
def lonF (l i : Nat) : Pl → Pl
  | .ob l' i' => if l' = l ∧ i' = i then .ob 1 0 else .hid (.ob l' i')
  | .cell l' i' o => if l' = l ∧ i' = i then .cell 1 0 o else .hid (.cell l' i' o)
  | .io a b => .io a b
  | p => .hid p
def outF1 (l i : Nat) : Pl → Pl
  | .ob 1 0 => .ob l i
  | .cell 1 0 o => .cell l i o
  | .hid p => p
  | .io a b => .io a b
  | p => .hid p
instance (l i : Nat) : ObF (lonF l i) := ⟨fun p => by
  unfold lonF
  repeat' split
  all_goals rfl⟩
instance (l i : Nat) : ObF (outF1 l i) := ⟨fun p => by
  unfold outF1
  repeat' split
  all_goals rfl⟩
theorem ob_ren {l i l0 i0 b : Nat} {x : Ob} {e1 e2 : Env} {f : Pl → Pl} {w' : World} (hx : noPtrOb x = true) (h : ObR A e1 w' l0 i0 b x) (hf : f (.ob l0 i0) = .ob l i) (hc : ∀ o, f (.cell l0 i0 o) = .cell l i o) (ho : e2.own = (e1.ren f).own) (hcl : e2.cl = e1.cl) : ObR A e2 w' l i b x := by
  obtain ⟨c, ty, fz, h1, h2, h3, h4⟩ := h
  refine ⟨c, ty, fz, h1, by rw [ho, Env.ren_own h2, hf], by rw [hcl]; exact h3, ?_⟩
  cases x with
  | abs k d => exact h4
  | map _ => trivial
  | cells cs =>
    refine ⟨h4.1, fun o av u ha hu => ?_⟩
    have hv := h4.2 o av u ha hu
    have hv2 : VR ((e1.dr l0).ren f) (some (.cell l i o)) none av u := VR.ren (f := f) (by simp [hc]) (by simp) hv
    exact VR.noPtr (e := (e1.dr l0).ren f) (e' := e2.dr l) hcl ho av _ _ u (noPtrs_get hx o av ha) hv2
theorem frame1 {g : FuncId} {o : Nat} {rest : List AV} {x x' : Ob} {v : AV} {wr0 : Wr} (hrest : noPtr.noPtrs rest = true) (hv : noPtr v = true) (hx : noPtrOb x = true) (hx' : noPtrOb x' = true)
    (h : SimCall P A g (.ptr 1 0 o :: rest) [[], [x]] (v, wr0, [[], [x']])) {l i : Nat} {S : Stack} (hg : getH S l i = some x) :
    SimCall P A g (.ptr l i o :: rest) S (v, bif memWr 1 0 wr0 then [(l, i)] else [], setH S l i x') := by
  intro e vs w hw hH hA
  obtain ⟨b, hb, hob⟩ := hH.ob l i x hg
  have hown : ∃ n, e.own b = some (.ob l i, n) := by obtain ⟨c, ty, fz, h1, h2, _⟩ := hob; exact ⟨_, h2⟩
  obtain ⟨nb, hown⟩ := hown
  let e0 : Env := { rho := [[], [b]], own := (e.ren (lonF l i)).own, cl := e.cl }
  have hw0 : WOK e0 w := ⟨hw.holds, (hw.ren (f := lonF l i)).free⟩
  have hH0 : HR A e0 [[], [x]] w := by
    refine ⟨⟨rfl, rfl, trivial⟩, fun l' i' y hy => ?_⟩
    match l', i', hy with
    | 0, i', hy => simp [getH, nth] at hy
    | 1, 0, hy =>
      simp only [getH, nth, Option.some.injEq] at hy
      subst hy
      exact ⟨b, rfl, ob_ren hx hob (by simp [lonF]) (by simp [lonF]) rfl rfl⟩
    | 1, i' + 1, hy => simp [getH, nth] at hy
    | l' + 2, i', hy => simp [getH] at hy
  have hA0 : ArgsR e0 (.ptr 1 0 o :: rest) vs.toList := by
    obtain ⟨g1, g2⟩ := hA
    refine ⟨by simpa using g1, fun j y u hy hu => ?_⟩
    cases j with
    | zero =>
      simp only [List.getElem?_cons_zero, Option.some.injEq] at hy
      subst hy
      have := g2 0 (.ptr l i o) u rfl hu
      simp only [VR] at this ⊢
      obtain ⟨b', h1, h2⟩ := this
      rw [hb] at h1; cases h1
      exact ⟨b, rfl, h2⟩
    | succ j =>
      have hy' : rest[j]? = some y := by simpa using hy
      have := g2 (j + 1) y u (by simpa using hy') hu
      exact VR.noPtr (e := e.ren (lonF l i)) (e' := e0) rfl rfl y _ _ u (noPtrs_get hrest j y hy') (VR.ren (by simp [lonF]) (by simp [lonF]) this)
  refine (h e0 vs w hw0 hH0 hA0).mono fun val w' hE => ?_
  obtain ⟨e1, k1, k2, k3, k4, k5⟩ := hE
  have hb1 : rhoAt e1.rho 1 0 = some b := k5 1 0 b rfl
  let e2 : Env := { rho := e.rho, own := (e1.ren (outF1 l i)).own, cl := e1.cl }
  have hnot : ∀ l' i' b', rhoAt e.rho l' i' = some b' → ¬ (l' = l ∧ i' = i) → b' < w.heap.size ∧ ∃ n, e.own b' = some (.ob l' i', n) ∧ e0.own b' = some (.hid (.ob l' i'), n) := by
    intro l' i' b' hb' hne
    obtain ⟨n, hn⟩ := HR.noown (s := rsOf S) hH hb'
    exact ⟨hw.own_lt hn, n, hn, by show (e.ren (lonF l i)).own b' = _; rw [Env.ren_own hn]; simp [lonF, hne]⟩
  refine ⟨e2, ⟨k1.holds, (k1.ren (f := outF1 l i)).free⟩, ⟨hH.par.setH _ _ _, fun l' i' y hy => ?_⟩, ?_, ?_, fun _ _ _ h => h⟩
  · by_cases hne : l' = l ∧ i' = i
    · obtain ⟨rfl, rfl⟩ := hne
      rw [getH_setH_same _ _ _ _ _ hg] at hy
      cases hy
      obtain ⟨b1, hb1', hob1⟩ := k2.ob 1 0 x' rfl
      rw [hb1] at hb1'; cases hb1'
      exact ⟨b, hb, ob_ren hx' hob1 (by simp [outF1]) (by simp [outF1]) rfl rfl⟩
    · have hne' : l' ≠ l ∨ i' ≠ i := by
        by_cases hl : l' = l
        · exact .inr fun hi => hne ⟨hl, hi⟩
        · exact .inl hl
      rw [getH_setH_ne _ _ _ _ _ _ hne'] at hy
      obtain ⟨b2, hb2, c, ty, fz, g1, g2, g3, g4⟩ := hH.ob l' i' y hy
      obtain ⟨q1, n, q2, q3⟩ := hnot l' i' b2 hb2 hne
      obtain ⟨s1, s2, s3⟩ := k4.stay b2 q1 (.inr ⟨_, _, q3⟩)
      rw [g2] at q2
      simp only [Option.some.injEq, Prod.mk.injEq, true_and] at q2
      refine ⟨b2, hb2, c, ty, fz, by rw [s1]; exact g1, ?_, fun o => (s3 o).trans (g3 o), ?_⟩
      · show (e1.ren (outF1 l i)).own b2 = _
        rw [q3] at s2
        rw [Env.ren_own s2]
        simp [outF1, q2]
      · cases y with
        | abs k d => exact g4
        | map _ => trivial
        | cells cs =>
          refine ⟨g4.1, fun o av u ha hu => ?_⟩
          refine VR.mono (e := e.dr l') (e' := e2.dr l') (fun _ _ _ h => h) k4.cl av _ _ none none u (fun p hp => ?_) (by simp) (g4.2 o av u ha hu)
          cases hp
          refine ⟨_, rfl, ⟨fun b3 m hm => ?_⟩⟩
          have hm' : e.own b3 = some (.cell l' i' o, m) := hm
          have h0 : e0.own b3 = some (.hid (.cell l' i' o), m) := by
            show (e.ren (lonF l i)).own b3 = _
            rw [Env.ren_own hm']
            simp [lonF, hne]
          obtain ⟨t1, t2, t3⟩ := k4.stay b3 (hw.own_lt hm') (.inr ⟨_, _, h0⟩)
          rw [h0] at t2
          exact ⟨by show (e1.ren (outF1 l i)).own b3 = _; rw [Env.ren_own t2]; rfl, fun o' ho => (t3 o').trans ho⟩
  · exact VR.noPtr (e := e1.ren (outF1 l i)) (e' := e2) rfl rfl v _ _ val hv (VR.ren (by simp [outF1]) (by simp [outF1]) k3)
  · refine ⟨k4.os, k4.tape, k4.output, k4.size, k4.cl, fun b' hb' ho => ?_, fun _ _ _ h => h, fun l' i' b' hb' hm => ?_⟩
    · rcases ho with ho | ⟨p, n, ho⟩
      · have h0 : e0.own b' = none := by show (e.ren (lonF l i)).own b' = _; simp [Env.ren, ho]
        obtain ⟨t1, t2, t3⟩ := k4.stay b' hb' (.inl h0)
        rw [h0] at t2
        exact ⟨t1, by show (e1.ren (outF1 l i)).own b' = _; simp [Env.ren, t2, ho], t3⟩
      · have h0 : e0.own b' = some (.hid (.hid p), n) := by show (e.ren (lonF l i)).own b' = _; rw [Env.ren_own ho]; rfl
        obtain ⟨t1, t2, t3⟩ := k4.stay b' hb' (.inr ⟨_, _, h0⟩)
        rw [h0] at t2
        exact ⟨t1, by show (e1.ren (outF1 l i)).own b' = _; rw [Env.ren_own t2, ho]; rfl, t3⟩
    · by_cases hne : l' = l ∧ i' = i
      · obtain ⟨rfl, rfl⟩ := hne
        rw [hb] at hb'; cases hb'
        refine k4.obs 1 0 b rfl ?_
        cases hmw : memWr 1 0 wr0 with
        | false => rfl
        | true => rw [hmw] at hm; simp [memWr, (beq_iff _ _).2 rfl] at hm
      · obtain ⟨q1, n, q2, q3⟩ := hnot l' i' b' hb' hne
        exact (k4.stay b' q1 (.inr ⟨_, _, q3⟩)).1
def IntsR (cs : List AV) (c : List Value) : Prop :=
  cs.length = c.length ∧ ∀ (o : Nat) av u, cs[o]? = some av → c[o]? = some u → ∃ k n, av = .int k n ∧ u = .int k n ∧ k.has n
def intsB : List AV → Bool
  | [] => true
  | .int _ _ :: r => intsB r
  | _ => false
theorem intsB_get : ∀ {cs : List AV}, intsB cs = true → ∀ (o : Nat) av, cs[o]? = some av → ∃ k n, av = .int k n
  | [], _, o, av, h => by simp at h
  | a :: r, hb, o, av, h => by
    cases a with
    | int k n =>
      cases o with
      | zero => simp at h; exact ⟨k, n, h.symm⟩
      | succ o => exact intsB_get (cs := r) hb o av (by simpa using h)
    | _ => simp [intsB] at hb
theorem IntsR.cells {l i : Nat} {cs : List AV} {c : List Value} (h : IntsR cs c) : CellsR e l i cs c := by
  refine ⟨h.1, fun o av u ha hu => ?_⟩
  obtain ⟨k, n, rfl, rfl, h3⟩ := h.2 o av u ha hu
  simp only [VR]
  exact ⟨trivial, h3⟩
theorem IntsR.of_cells {l i : Nat} {cs : List AV} {c : List Value} (hb : intsB cs = true) (h : CellsR e l i cs c) : IntsR cs c := by
  refine ⟨h.1, fun o av u ha hu => ?_⟩
  obtain ⟨k, n, rfl⟩ := intsB_get hb o av ha
  have := h.2 o _ u ha hu
  simp only [VR] at this
  exact ⟨k, n, rfl, this.1, this.2⟩
abbrev Kinds := Nat → List Int → List AV → Prop
def absOf (K : Kinds) : AbsR := fun k d c => ∃ cs, K k d cs ∧ IntsR cs c
theorem HR.ofAbs {K : Kinds} {S : Stack} {l i k : Nat} {d : List Int} (hH : HR (absOf K) e S w) (hg : getH S l i = some (.abs k d)) : ∃ cs, K k d cs ∧ HR (absOf K) e (setH S l i (.cells cs)) w := by
  obtain ⟨b, hb, c, ty, fz, h1, h2, h3, cs, h4, h5⟩ := hH.ob l i _ hg
  refine ⟨cs, h4, hH.par.setH _ _ _, fun l' i' y hy => ?_⟩
  by_cases hne : l' = l ∧ i' = i
  · obtain ⟨rfl, rfl⟩ := hne
    rw [getH_setH_same _ _ _ _ _ hg] at hy
    cases hy
    exact ⟨b, hb, c, ty, fz, h1, h2, h3, h5.cells⟩
  · rw [getH_setH_ne _ _ _ _ _ _ (by by_cases hl : l' = l; exact .inr fun hi => hne ⟨hl, hi⟩; exact .inl hl)] at hy
    exact hH.ob l' i' y hy
theorem Par.unsetH : ∀ {R : Rho} {H : Stack} (l i : Nat) (y : Ob), Par R (Vm.setH H l i y) → Par R H
  | [], [], _, _, _, h => by simp [Par]
  | r :: R, a :: S, 0, i, y, h => by simp only [Vm.setH, Par, setAt_eq, List.length_set] at h ⊢; exact h
  | r :: R, a :: S, l + 1, i, y, h => by simp only [Vm.setH, Par] at h ⊢; exact ⟨h.1, Par.unsetH l i y h.2⟩
  | [], _ :: _, 0, _, _, h => by simp [Vm.setH, Par] at h
  | [], _ :: _, _ + 1, _, _, h => by simp [Vm.setH, Par] at h
  | _ :: _, [], _, _, _, h => by simp [Vm.setH, Par] at h
theorem HR.toAbs {K : Kinds} {S : Stack} {l i k : Nat} {d : List Int} {cs : List AV} {x : Ob} (hg0 : getH S l i = some x) (hH : HR (absOf K) e (setH S l i (.cells cs)) w) (hk : K k d cs) (hi : intsB cs = true) : HR (absOf K) e (setH S l i (.abs k d)) w := by
  refine ⟨(hH.par.unsetH _ _ _).setH _ _ _, fun l' i' y hy => ?_⟩
  by_cases hne : l' = l ∧ i' = i
  · obtain ⟨rfl, rfl⟩ := hne
    rw [getH_setH_same _ _ _ _ _ hg0] at hy
    cases hy
    obtain ⟨b, hb, c, ty, fz, h1, h2, h3, h4⟩ := hH.ob l' i' (.cells cs) (getH_setH_same _ _ _ _ _ hg0)
    exact ⟨b, hb, c, ty, fz, h1, h2, h3, cs, hk, IntsR.of_cells hi h4⟩
  · have hn : l' ≠ l ∨ i' ≠ i := by by_cases hl : l' = l; exact .inr fun hi => hne ⟨hl, hi⟩; exact .inl hl
    rw [getH_setH_ne _ _ _ _ _ _ hn] at hy
    exact hH.ob l' i' y (by rw [getH_setH_ne _ _ _ _ _ _ hn]; exact hy)
theorem abs1 {K : Kinds} {g : FuncId} {args : List AV} {k k' : Nat} {d d' : List Int} {v : AV} {wr : Wr}
    (h : ∀ cs, K k d cs → ∃ cs', K k' d' cs' ∧ intsB cs' = true ∧ SimCall P (absOf K) g args [[], [.cells cs]] (v, wr, [[], [.cells cs']])) :
    SimCall P (absOf K) g args [[], [.abs k d]] (v, wr, [[], [.abs k' d']]) := by
  intro e vs w hw hH hA
  obtain ⟨cs, hk, hH2⟩ := HR.ofAbs (l := 1) (i := 0) hH rfl
  obtain ⟨cs', hk', hi', hs⟩ := h cs hk
  refine (hs e vs w hw hH2 hA).mono fun val w' ⟨e', k1, k2, k3, k4, k5⟩ => ?_
  exact ⟨e', k1, HR.toAbs (S := [[], [.cells cs']]) (l := 1) (i := 0) (x := .cells cs') rfl k2 hk' hi', k3, k4, k5⟩
theorem abs_new {K : Kinds} {g : FuncId} {args : List AV} {k' : Nat} {d' : List Int} {v : AV} {wr : Wr} {l : List Ob} {S : Stack} {cs' : List AV} (hk : K k' d' cs') (hi : intsB cs' = true)
    (h : SimCall P (absOf K) g args (l :: S) (v, wr, app l [.cells cs'] :: S)) : SimCall P (absOf K) g args (l :: S) (v, wr, app l [.abs k' d'] :: S) := by
  intro e vs w hw hH hA
  refine (h e vs w hw hH hA).mono fun val w' ⟨e', k1, k2, k3, k4, k5⟩ => ?_
  refine ⟨e', k1, ?_, k3, k4, k5⟩
  have hg : getH (app l [.cells cs'] :: S) 0 l.length = some (.cells cs') := by simp [getH, nth_eq, app_eq]
  have hset : ∀ y, setH (app l [.cells cs'] :: S) 0 l.length y = app l [y] :: S := by
    intro y
    simp [setH, setAt_eq, app_eq]
  have := HR.toAbs (cs := cs') (l := 0) (i := l.length) hg (by rw [hset]; exact k2) hk hi
  rwa [hset] at this
end Go.Vm
/- Contracts: of functions of data alone, of methods of one object, of functions that make an object; loops' summaries; each told as a decision. -/
set_option linter.unusedVariables false
set_option linter.unusedSimpArgs false
namespace Go.Vm
variable {P : Program} {cf : CallK} {cfg : Cfg} {A : AbsR} {e : Env} {w : World}
abbrev Contract := List AV → Stack → (Res → Option Res) → Option Res
def Con (P : Program) (A : AbsR) (g : Nat) (c : Contract) : Prop :=
  ∀ args S k r, c args S k = some r → ∃ res, (∀ k', c args S k' = k' res) ∧ k res = some r ∧ SimCall P A g args S res ∧ ∀ l i, memWr l i res.2.1 = false → ObE (getH res.2.2 l i) (getH S l i) ∨ (l = 0 ∧ headLen S ≤ i)
structure Ent (P : Program) (A : AbsR) where
  g : Nat
  c : Contract
  ok : Con P A g c
def cfE : List (Ent P A) → CallK
  | [], _, _, _, _ => none
  | x :: r, g, args, S, k => bif Nat.beq g x.g then x.c args S k else cfE r g args S k
theorem cfE_ok : ∀ (l : List (Ent P A)), CfOK P A (cfE l)
  | [] => ⟨fun g args S k r h => (nomatch h), fun g args S res h => (nomatch h), fun g args S res h => (nomatch h)⟩
  | x :: r => by
    have ih := cfE_ok r
    refine ⟨fun g args S k q h => ?_, fun g args S res h => ?_, fun g args S res h => ?_⟩
    · simp only [cfE] at h ⊢
      cases hb : Nat.beq g x.g with
      | true =>
        rw [hb] at h
        obtain ⟨res, h1, h2, _⟩ := x.ok args S k q h
        exact ⟨res, by simpa using h1 some, h2⟩
      | false => rw [hb] at h; simpa using ih.nat g args S k q h
    · simp only [cfE] at h
      cases hb : Nat.beq g x.g with
      | true =>
        rw [hb] at h
        obtain ⟨res', h1, h2, h3, _⟩ := x.ok args S some res h
        cases h2
        rw [(beq_iff _ _).1 hb]; exact h3
      | false => rw [hb] at h; exact ih.sim g args S res h
    · simp only [cfE] at h
      cases hb : Nat.beq g x.g with
      | true =>
        rw [hb] at h
        obtain ⟨res', h1, h2, _, h3⟩ := x.ok args S some res h
        cases h2
        exact h3
      | false => rw [hb] at h; exact ih.frame g args S res h
theorem SimCall.ranged {g : FuncId} {args : List AV} {S : Stack} {res : Res} (h : okAVs args → okH S → SimCall P A g args S res) : SimCall P A g args S res := by
  intro e vs w h1 h2 h3
  refine h ?_ h2.ok e vs w h1 h2 h3
  rw [okAVs_iff]
  intro v hv
  obtain ⟨i, hi⟩ := List.getElem?_of_mem hv
  have hlt : i < vs.toList.length := by rw [← h3.1]; exact (List.getElem?_eq_some_iff.1 hi).1
  exact VR.ok v _ _ _ (h3.2 i v _ hi (List.getElem?_eq_getElem hlt))
theorem SimCall.wr {g : FuncId} {args : List AV} {S S' : Stack} {v : AV} {wr wr' : Wr} (h : SimCall P A g args S (v, wr, S')) (hw : WLe wr wr') : SimCall P A g args S (v, wr', S') := by
  intro e vs w h1 h2 h3
  exact (h e vs w h1 h2 h3).mono fun val w' ⟨e', k1, k2, k3, k4, k5⟩ => ⟨e', k1, k2, k3, k4.weaken hw, k5⟩
def pureC (f : List AV → Tr AV) : Contract := fun args S k => (f args).run fun v => k (v, [], S)
theorem copyvs_refl_ObE (x : Option Ob) : ObE x x := by
  cases x with
  | none => rfl
  | some x => cases x <;> rfl
theorem pureC_ok {g : Nat} {f : List AV → Tr AV} (h : ∀ args v, (f args).val = some v → okAVs args → ∀ S, SimCall P A g args S (v, [], S)) : Con P A g (pureC f) := by
  intro args S k r hc
  obtain ⟨v, h1, h2, h3⟩ := Tr.run_val hc
  refine ⟨(v, [], S), fun k' => ?_, h2, SimCall.ranged fun ho _ => h args v h1 ho S, fun l i _ => .inl (copyvs_refl_ObE _)⟩
  exact h3 fun v => k' (v, [], S)
def objC (off : Nat) (f : Ob → List AV → Tr (AV × Bool × Ob)) : Contract := fun args S k => match args with
  | .ptr l i o :: rest => bif Nat.beq o off then (match getH S l i with
      | some x => (f x rest).run fun y => match y with | (v, wrote, x') => k (v, bif wrote then [(l, i)] else [], bif wrote then setH S l i x' else S)
      | none => none) else none
  | _ => none
theorem setH_same : ∀ {S : Stack} {l i : Nat} {x : Ob}, getH S l i = some x → setH S l i x = S
  | [], _, _, _, h => by simp [getH] at h
  | a :: S, 0, i, x, h => by
    simp only [getH, nth_eq] at h
    simp only [setH, setAt_eq]
    congr 1
    refine List.ext_getElem? fun j => ?_
    rw [List.getElem?_set]
    by_cases hij : i = j
    · subst hij
      rw [if_pos rfl]
      have : i < a.length := (List.getElem?_eq_some_iff.1 h).1
      rw [if_pos this, h]
    · rw [if_neg hij]
  | a :: S, l + 1, i, x, h => by
    simp only [getH] at h
    simp only [setH]
    rw [setH_same h]
theorem objC_ok {g off : Nat} {f : Ob → List AV → Tr (AV × Bool × Ob)}
    (h : ∀ x rest v wrote x', (f x rest).val = some (v, wrote, x') → noPtrOb x = true ∧ noPtr.noPtrs rest = true ∧ noPtr v = true ∧ noPtrOb x' = true ∧ (wrote = false → x' = x) ∧
      (okAVs rest → okH [[], [x]] → SimCall P A g (.ptr 1 0 off :: rest) [[], [x]] (v, bif wrote then [(1, 0)] else [], [[], [x']]))) : Con P A g (objC off f) := by
  intro args S k r hc
  unfold objC at hc ⊢
  split at hc
  · rename_i l i o rest
    cases hb : Nat.beq o off with
    | false => simp only [hb, cond_false] at hc; cases hc
    | true =>
    have ho := (beq_iff _ _).1 hb
    subst ho
    cases hg : getH S l i with
    | none => simp only [hb, hg, cond_true] at hc; cases hc
    | some x =>
      simp only [hb, hg, cond_true] at hc
      obtain ⟨⟨v, wrote, x'⟩, h1, h2, h3⟩ := Tr.run_val hc
      obtain ⟨g1, g2, g3, g4, g5, g6⟩ := h x rest v wrote x' h1
      refine ⟨(v, bif wrote then [(l, i)] else [], bif wrote then setH S l i x' else S), fun k' => ?_, h2, ?_, fun l' i' hm => ?_⟩
      · simp only [hb, cond_true, hg]
        exact h3 _
      · refine SimCall.ranged fun ha hh => ?_
        have hok : okH [[], [x]] := by
          intro l' i' cs hcs
          match l', i', hcs with
          | 0, i', hcs => simp [getH, nth] at hcs
          | 1, 0, hcs =>
            simp only [getH, nth, Option.some.injEq] at hcs
            subst hcs
            exact hh l i cs hg
          | 1, i' + 1, hcs => simp [getH, nth] at hcs
          | l' + 2, i', hcs => simp [getH] at hcs
        have hs := frame1 g2 g3 g1 g4 (g6 (by simp only [okAVs] at ha; exact ha.2) hok) hg
        cases wrote with
        | true => simpa [memWr, (beq_iff _ _).2 rfl] using hs
        | false =>
          rw [g5 rfl] at hs
          rw [setH_same hg] at hs
          simpa [memWr] using hs
      · cases wrote with
        | false => exact .inl (copyvs_refl_ObE _)
        | true =>
          simp only [cond_true] at hm ⊢
          refine .inl ?_
          have hne : l' ≠ l ∨ i' ≠ i := by
            simp only [memWr, Bool.or_false, Bool.and_eq_false_iff, beq_false] at hm
            exact hm
          rw [getH_setH_ne _ _ _ _ _ _ hne]
          exact copyvs_refl_ObE _
  · cases hc
def newC (f : List AV → Tr Ob) : Contract := fun args S k => match S with
  | l :: S' => (f args).run fun x => k (.ptr 0 (lenN l) 0, [], app l [x] :: S')
  | [] => none
theorem newC_ok {g : Nat} {f : List AV → Tr Ob} (h : ∀ args x, (f args).val = some x → okAVs args → ∀ l S, SimCall P A g args (l :: S) (.ptr 0 (lenN l) 0, [], app l [x] :: S)) : Con P A g (newC f) := by
  intro args S k r hc
  unfold newC at hc ⊢
  cases S with
  | nil => cases hc
  | cons l S =>
    obtain ⟨x, h1, h2, h3⟩ := Tr.run_val hc
    refine ⟨(.ptr 0 (lenN l) 0, [], app l [x] :: S), fun k' => h3 _, h2, SimCall.ranged fun ho _ => h args x h1 ho l S, fun l' i' _ => ?_⟩
    cases l' with
    | succ l' => exact .inl (copyvs_refl_ObE _)
    | zero =>
      simp only [headLen, lenN_eq]
      rcases Nat.lt_or_ge i' l.length with hi | hi
      · left
        simp only [getH, nth_eq, app_eq]
        rw [List.getElem?_append_left hi]
        exact copyvs_refl_ObE _
      · exact .inr ⟨trivial, hi⟩
def sumT (f : List AV → Stack → Tr (Ex × List AV × Stack × Wr)) : List AV → Stack → Wr → (Ex → List AV → Stack → Wr → Option Res) → Option Res :=
  fun vs H wr k => (f vs H).run fun y => match y with | (ex, vs', H', w) => k ex vs' H' (app w wr)
def loopT (live outs : List Nat) (f : List AV → Stack → Tr (Ex × List AV × Stack × Wr)) : LoopSum := ⟨live, outs, sumT f⟩
theorem loopT_ok {n : Nat} {body : Fr → Stack → Wr → Kont → Option Res} {live outs : List Nat} {f : List AV → Stack → Tr (Ex × List AV × Stack × Wr)} (hlt : ∀ t ∈ live, t < n)
    (h : ∀ vs H wr ex vs' H' w, (f vs H).val = some (ex, vs', H', w) → okAVs vs → okH H → ∃ N, ∀ k : Ex → List AV → Stack → Wr → Option Res, loopC body live (headLen H) N vs H wr (fun ex fr H' wr' => k ex (pickAll fr outs) H' wr') = k ex vs' H' (app w wr)) : LoopOK n body (loopT live outs f) where
  lt := hlt
  nat := fun vs H wr k r hs => by
    obtain ⟨⟨ex, vs', H', w⟩, h1, h2, h3⟩ := Tr.run_val hs
    exact ⟨ex, vs', H', app w wr, WLe.right w wr, h2⟩
  ok := fun vs H wr k r hs ha hh => by
    obtain ⟨⟨ex, vs', H', w⟩, h1, h2, h3⟩ := Tr.run_val hs
    obtain ⟨N, hN⟩ := h vs H wr ex vs' H' w h1 ha hh
    exact ⟨N, (hN k).trans h2⟩
def lcode (P : Program) (g j : Nat) : Code := match nth (funLoops P g) j with | some x => x.2 | none => .skip
def lpos (P : Program) (g : Nat) : List Nat := mapN (·.1) (funLoops P g)
def lfOf : List (Nat × LoopSum) → Nat → Option LoopSum
  | [], _ => none
  | (p, L) :: r, q => bif Nat.beq q p then some L else lfOf r q
theorem no_loops {g : Nat} {lf : Nat → Option LoopSum} (h : lpos P g = []) : ∀ x ∈ funLoops P g, ∀ L, lf x.1 = some L → LoopOK (ntm P g) (fun fr H wr k => code P cf cfg lf (cfg.live g) x.2 (2 * x.1) fr H wr k) L := by
  have : funLoops P g = [] := by
    unfold lpos at h
    rw [mapN_eq] at h
    simpa using h
  rw [this]
  intro x hx
  cases hx
theorem all_loops {g : Nat} {lf : Nat → Option LoopSum} {ps : List Nat} (h : lpos P g = ps) (hall : ∀ j p, ps[j]? = some p → ∀ L, lf p = some L → LoopOK (ntm P g) (fun fr H wr k => code P cf cfg lf (cfg.live g) (lcode P g j) (2 * p) fr H wr k) L) :
    ∀ x ∈ funLoops P g, ∀ L, lf x.1 = some L → LoopOK (ntm P g) (fun fr H wr k => code P cf cfg lf (cfg.live g) x.2 (2 * x.1) fr H wr k) L := by
  intro x hx L hL
  obtain ⟨j, hj⟩ := List.getElem?_of_mem hx
  have hp : ps[j]? = some x.1 := by
    rw [← h]
    unfold lpos
    rw [mapN_eq, List.getElem?_map, hj]
    rfl
  have := hall j x.1 hp L hL
  unfold lcode at this
  rwa [nth_eq, hj] at this
theorem one_loop {g p : Nat} {L : LoopSum} {lf : Nat → Option LoopSum} (hlf : lf p = some L) (h : lpos P g = [p]) (hL : LoopOK (ntm P g) (fun fr H wr k => code P cf cfg lf (cfg.live g) (lcode P g 0) (2 * p) fr H wr k) L) :
    ∀ x ∈ funLoops P g, ∀ L, lf x.1 = some L → LoopOK (ntm P g) (fun fr H wr k => code P cf cfg lf (cfg.live g) x.2 (2 * x.1) fr H wr k) L := by
  refine all_loops h fun j q hq L' hL' => ?_
  cases j with
  | zero =>
    simp at hq
    subst hq
    rw [hlf] at hL'
    cases hL'
    exact hL
  | succ j => simp at hq
theorem fun_call (l : List (Ent P A)) (hm : P.follows .mixedOrders = true) {lf : Nat → Option LoopSum} {g : Nat} {args : List AV} {S : Stack} {res : Res} (hn : ((P.funcs[g]?).map fun fn => fn.name == "runtime.NumGoroutine") = some false) (hb : funB P g = true)
    (hl : ∀ x ∈ funLoops P g, ∀ L, lf x.1 = some L → LoopOK (ntm P g) (fun fr H wr k => code P (cfE l) cfg lf (cfg.live g) x.2 (2 * x.1) fr H wr k) L) (h : body P (cfE l) cfg lf g args S some = some res) : SimCall P A g args S res :=
  fun_invokes (cfE_ok l) hm hn hb hl h
end Go.Vm
/- One cell of an object is written, told of memory alone; the atomic operations on a number. -/
set_option linter.unusedVariables false
set_option linter.unusedSimpArgs false
namespace Go.Vm
open Go.RowKit (Below)
variable {P : Program} {A : AbsR} {e : Env} {w : World}
theorem Free.frozen {b n o : Nat} {p : Pl} (h : Free w b p n) (ho : o < n) : w.frozen? ⟨b, o, none⟩ = false := by
  obtain ⟨c, ty, lo, hi, h1, h2, h3⟩ := h
  rcases h1 with h1 | ⟨_, h1, _⟩
  case inr => subst h1; subst h2; simp at ho
  simp only [World.frozen?, h1]
  rcases h3 with h3 | h3
  · simp; omega
  · simp; omega
theorem HR.cell {S : Stack} {l i : Nat} {cs : List AV} (hw : WOK e w) (hH : HR A e S w) (hg : getH S l i = some (.cells cs)) : ∃ b, rhoAt e.rho l i = some b ∧ ∀ o k n, cs[o]? = some (.int k n) → w.cell? ⟨b, o, none⟩ = some (.int k n) ∧ k.has n ∧ w.frozen? ⟨b, o, none⟩ = false := by
  obtain ⟨b, hb, c, ty, fz, h1, h2, h3, h4⟩ := hH.ob l i _ hg
  simp only [HB] at h1
  refine ⟨b, hb, fun o k n ho => ?_⟩
  have hlt : o < c.toList.length := by rw [← h4.1]; exact (List.getElem?_eq_some_iff.1 ho).1
  have hv := h4.2 o _ _ ho (List.getElem?_eq_getElem hlt)
  simp only [VR] at hv
  refine ⟨?_, hv.2, (hw.free b _ _ h2).frozen (by simpa using hlt)⟩
  simp only [World.cell?, h1]
  have hs : o < c.size := by simpa using hlt
  simp only [Option.isSome_none, Bool.false_eq_true, if_false]
  rw [Array.getElem?_eq_getElem hs]
  simpa using hv.1
theorem store1 {S : Stack} {l i o : Nat} {cs : List AV} {k : IntKind} {n : Int} {b : Nat} (hw : WOK e w) (hH : HR A e S w) (hg : getH S l i = some (.cells cs)) (hb : rhoAt e.rho l i = some b) (ho : o < cs.length) (hk : k.has n) :
    ∃ e', WOK e' (w.setCell ⟨b, o, none⟩ (.int k n)) ∧ HR A e' (setH S l i (.cells (setAt cs o (.int k n)))) (w.setCell ⟨b, o, none⟩ (.int k n)) ∧ Grow e w e' (w.setCell ⟨b, o, none⟩ (.int k n)) [(l, i)] ∧ RhoLe e e' := by
  obtain ⟨b', hb', c, ty, fz, h1, h2, h3, h4⟩ := hH.ob l i _ hg
  simp only [HB] at h1
  rw [hb] at hb'; cases hb'
  have hr : RR 0 A e (rsOf S) ⟨#[], []⟩ w := ⟨hw, hH, ⟨rfl, fun t ht => absurd ht (by omega)⟩, fun t src ht => absurd ht (by omega)⟩
  have hx : ∀ q, q ≠ b → (w.setCell ⟨b, o, none⟩ (.int k n)).heap[q]? = w.heap[q]? := fun q hq => Go.RowKit.Below.heap_setCell _ _ _ _ hq
  have hc : (w.setCell ⟨b, o, none⟩ (.int k n)).heap[b]? = some (.cells (putL c.toList o (Value.int k n).cells.toList).toArray ty fz) := by
    simp only [World.setCell]
    rw [Array.getElem?_modify, if_pos rfl, h1]
    simp only [Option.map_some, Option.some.injEq]
    have hco : o < c.size := by
      have := h4.1
      simp at this
      omega
    simp only [Value.cells, putL]
    congr 1
    apply Array.ext'
    simp
  have hw2 := RR.write (off := o) (v := .int k n) (u := .int k n) hr hb hg h1 hc hx rfl (by simp only [VR]; exact ⟨trivial, hk⟩) (by simp [cellsOf]; omega) (by simp [noPtr])
  refine ⟨_, hw2.wok, ?_, Grow.write (s := rsOf S) hH (f := stF l i o) (fun p => rfl) hb hx rfl rfl rfl (by simp [World.setCell]) , fun _ _ _ h => h⟩
  have := hw2.hr
  simpa [rsOf, putCells, cellsOf] using this
theorem drew_ok (hw : WOK e w) : WOK e w.drew := ⟨hw.holds, hw.free⟩
theorem HR.drewW {S : Stack} (h : HR A e S w) : HR A e S w.drew := ⟨h.par, h.ob⟩
theorem args2 {g : FuncId} {l i o : Nat} {k : IntKind} {x : Int} {vs : Array Value} {b : Nat} (hb : rhoAt e.rho l i = some b) (h : ArgsR e [.ptr l i o, .int k x] vs.toList) (hlo : Nat.blt o mapO = true := by rfl) : vs = #[.pointer (some ⟨b, o, none⟩), .int k x] ∧ k.has x := by
  obtain ⟨h1, h2⟩ := h
  obtain ⟨l0⟩ := vs
  match l0, h1 with
  | [v0, v1], _ =>
    have g0 := h2 0 _ v0 rfl rfl
    have g1 := h2 1 _ v1 rfl rfl
    simp only [VR] at g0 g1
    obtain ⟨b', q1, q2⟩ := g0
    rw [hb] at q1; cases q1
    rw [q2, g1.1, pval_lt hlo]
    exact ⟨rfl, g1.2⟩
theorem args1 {l i o : Nat} {vs : Array Value} {b : Nat} (hb : rhoAt e.rho l i = some b) (h : ArgsR e [.ptr l i o] vs.toList) (hlo : Nat.blt o mapO = true := by rfl) : vs = #[.pointer (some ⟨b, o, none⟩)] := by
  obtain ⟨h1, h2⟩ := h
  obtain ⟨l0⟩ := vs
  match l0, h1 with
  | [v0], _ =>
    have g0 := h2 0 _ v0 rfl rfl
    simp only [VR] at g0
    obtain ⟨b', q1, q2⟩ := g0
    rw [hb] at q1; cases q1
    rw [q2, pval_lt hlo]
theorem ext_add {f : FuncId} {fn : Func} (hf : P.funcs[f]? = some fn) (hname : (fn.name == "runtime.NumGoroutine") = false) (hb : fn.body.isNone = true) (hn : Extern.findNext fn = none) (k : IntKind)
    (he : Extern.find fn = some (Extern.Atomic.update (Op.intArith .add) k true)) {S : Stack} {l i o : Nat} {cs : List AV} {n x : Int} (hg : getH S l i = some (.cells cs)) (hc : cs[o]? = some (.int k n)) (hlo : Nat.blt o mapO = true := by rfl) :
    SimCall P A f [.ptr l i o, .int k x] S (.int k (k.wrap (n + x)), [(l, i)], setH S l i (.cells (setAt cs o (.int k (k.wrap (n + x)))))) := by
  intro e vs w hw hH hA
  obtain ⟨b, hb', hcell⟩ := HR.cell hw hH hg
  obtain ⟨g1, g2, g3⟩ := hcell o k n hc
  obtain ⟨rfl, hx⟩ := args2 (g := f) hb' hA hlo
  obtain ⟨e', k1, k2, k3, k4⟩ := store1 hw hH hg hb' (List.getElem?_eq_some_iff.1 hc).1 (wrap_has k (n + x))
  exact Invokes.of_value (run_call_add hf hname hb hn k he g1 g3 (s := k.wrap (n + x)) rfl) ⟨e', k1, k2, by simp only [VR]; exact ⟨trivial, wrap_has _ _⟩, k3, k4⟩
theorem ext_load {f : FuncId} {fn : Func} (hf : P.funcs[f]? = some fn) (hname : (fn.name == "runtime.NumGoroutine") = false) (hb : fn.body.isNone = true) (hn : Extern.findNext fn = none) (k : IntKind)
    (he : Extern.find fn = some (Extern.Atomic.loadT (.int k))) {S : Stack} {l i o : Nat} {cs : List AV} {n : Int} (hg : getH S l i = some (.cells cs)) (hc : cs[o]? = some (.int k n)) (hlo : Nat.blt o mapO = true := by rfl) :
    SimCall P A f [.ptr l i o] S (.int k n, [], S) := by
  intro e vs w hw hH hA
  obtain ⟨b, hb', hcell⟩ := HR.cell hw hH hg
  obtain ⟨g1, g2, g3⟩ := hcell o k n hc
  obtain rfl := args1 hb' hA hlo
  exact Invokes.of_value (run_call_load hf hname hb hn k he g1) ⟨e, hw, hH, by simp only [VR]; exact ⟨trivial, g2⟩, Grow.refl _ _ _, fun _ _ _ h => h⟩
end Go.Vm
/- Operations on bits, told of natural numbers. -/
namespace Go.Vm
theorem wrap_of {k : IntKind} {n : Int} (h1 : k.min ≤ n) (h2 : n ≤ k.max) : k.wrap n = n := by
  cases k <;> simp [IntKind.wrap, IntKind.min, IntKind.max, IntKind.signed, IntKind.bits] at * <;> omega
theorem bvNat (w a : Nat) (h : a < 2 ^ w) : (BitVec.ofInt w (a : Int)).toNat = a := by
  rw [BitVec.ofInt_natCast, BitVec.toNat_ofNat, Nat.mod_eq_of_lt h]
theorem xor_u {w a b : Nat} (ha : a < 2 ^ w) (hb : b < 2 ^ w) : (BitVec.ofInt w (a : Int) ^^^ BitVec.ofInt w (b : Int)).toNat = a ^^^ b := by
  rw [BitVec.toNat_xor, bvNat w a ha, bvNat w b hb]
theorem and_u {w a b : Nat} (ha : a < 2 ^ w) (hb : b < 2 ^ w) : (BitVec.ofInt w (a : Int) &&& BitVec.ofInt w (b : Int)).toNat = a &&& b := by
  rw [BitVec.toNat_and, bvNat w a ha, bvNat w b hb]
theorem natCast_toNat {n : Int} (h : 0 ≤ n) : ((n.toNat : Nat) : Int) = n := Int.toNat_of_nonneg h
theorem bitop_xor_u32 {a b : Nat} (ha : a < 2 ^ 32) (hb : b < 2 ^ 32) : bitop .xor .u32 (a : Int) (b : Int) = ((a ^^^ b : Nat) : Int) := by
  have : a ^^^ b < 2 ^ 32 := Nat.xor_lt_two_pow ha hb
  show IntKind.u32.wrap _ = _
  rw [show IntKind.u32.bits = 32 from rfl, xor_u ha hb]
  exact wrap_of (by simp [IntKind.min, IntKind.signed]) (by simp [IntKind.max, IntKind.signed, IntKind.bits]; omega)
theorem bitop_and_u32 {a b : Nat} (ha : a < 2 ^ 32) (hb : b < 2 ^ 32) : bitop .and .u32 (a : Int) (b : Int) = ((a &&& b : Nat) : Int) := by
  have : a &&& b < 2 ^ 32 := Nat.and_lt_two_pow _ hb
  show IntKind.u32.wrap _ = _
  rw [show IntKind.u32.bits = 32 from rfl, and_u ha hb]
  exact wrap_of (by simp [IntKind.min, IntKind.signed]) (by simp [IntKind.max, IntKind.signed, IntKind.bits]; omega)
theorem bitop_xor_u8 {a b : Nat} (ha : a < 2 ^ 8) (hb : b < 2 ^ 8) : bitop .xor .u8 (a : Int) (b : Int) = ((a ^^^ b : Nat) : Int) := by
  have : a ^^^ b < 2 ^ 8 := Nat.xor_lt_two_pow ha hb
  show IntKind.u8.wrap _ = _
  rw [show IntKind.u8.bits = 8 from rfl, xor_u ha hb]
  exact wrap_of (by simp [IntKind.min, IntKind.signed]) (by simp [IntKind.max, IntKind.signed, IntKind.bits]; omega)
theorem shiftR_nat (k : IntKind) (a j : Nat) (hj : j ≤ k.bits) : shiftR k (a : Int) (j : Int) = ((a / 2 ^ j : Nat) : Int) := by
  unfold shiftR
  rw [Int.toNat_natCast, Nat.min_eq_left hj, Int.fdiv_eq_ediv_of_nonneg _ (by exact_mod_cast Nat.zero_le _)]
  norm_cast
theorem u32_lt {n : Int} (h : IntKind.u32.min ≤ n ∧ n ≤ IntKind.u32.max) : 0 ≤ n ∧ n.toNat < 2 ^ 32 := by
  simp [IntKind.min, IntKind.max, IntKind.signed, IntKind.bits] at h
  omega
theorem u8_lt {n : Int} (h : IntKind.u8.min ≤ n ∧ n ≤ IntKind.u8.max) : 0 ≤ n ∧ n.toNat < 2 ^ 8 := by
  simp [IntKind.min, IntKind.max, IntKind.signed, IntKind.bits] at h
  omega
theorem wrap_i64 {n : Int} (h1 : -9223372036854775808 ≤ n) (h2 : n ≤ 9223372036854775807) : IntKind.i64.wrap n = n :=
  wrap_of (by simp [IntKind.min, IntKind.signed, IntKind.bits]; omega) (by simp [IntKind.max, IntKind.signed, IntKind.bits]; omega)
theorem wrap_u32 {n : Int} (h1 : 0 ≤ n) (h2 : n ≤ 4294967295) : IntKind.u32.wrap n = n :=
  wrap_of (by simp [IntKind.min, IntKind.signed]; omega) (by simp [IntKind.max, IntKind.signed, IntKind.bits]; omega)
theorem wrap_u8_nat (a : Nat) : IntKind.u8.wrap (a : Int) = ((a % 256 : Nat) : Int) := by
  simp [IntKind.wrap, IntKind.signed, IntKind.bits]
end Go.Vm
/- Hints, as lists. -/
namespace Go.Vm
def look (l : List (Nat × List Nat)) (g : Nat) : Option (List Nat) :=
  match l with
  | [] => none
  | (h, x) :: r => bif Nat.beq g h then some x else look r g
def look2 (l : List (Nat × Nat × List Nat)) (g p : Nat) : Option (List Nat) :=
  match l with
  | [] => none
  | (h, q, x) :: r => bif Nat.beq g h && Nat.beq p q then some x else look2 r g p
def cfgOf (own : List (Nat × List Nat)) (res : List Nat) (live : List (Nat × Nat × List Nat)) : Cfg :=
  { ownArgs := fun g => match look own g with | some l => l | none => [], ownRes := fun g => memN g res, live := look2 live }
end Go.Vm
/- Small things for contracts by hand. -/
set_option linter.unusedVariables false
set_option linter.unusedSimpArgs false
namespace Go.Vm
variable {P : Program} {A : AbsR} {e : Env} {w : World}
def LC (P : Program) (cf : CallK) (cfg : Cfg) (lf : Nat → Option LoopSum) (g j p : Nat) (live outs : List Nat) (N : Nat) (vs : List AV) (H : Stack) (wr : Wr) (k : Ex → List AV → Stack → Wr → Option Res) : Option Res :=
  loopC (fun fr H wr k => code P cf cfg lf (cfg.live g) (lcode P g j) (2 * p) fr H wr k) live (headLen H) N vs H wr (fun ex fr H' wr' => k ex (pickAll fr outs) H' wr')
theorem setH_setH : ∀ (S : Stack) (l i : Nat) (x y : Ob), setH (setH S l i x) l i y = setH S l i y
  | [], _, _, _, _ => rfl
  | a :: S, 0, i, x, y => by simp [setH, setAt_eq]
  | a :: S, l + 1, i, x, y => by simp [setH, setH_setH S l i x y]
theorem Invokes.calls {g : FuncId} {fn : Func} {c : Code} {vs : Array Value} {R : Value → World → Prop} (hf : P.funcs[g]? = some fn) (hname : (fn.name == "runtime.NumGoroutine") = false) (hb : fn.body = some c) (h : Invokes P g vs w R) :
    Calls P g vs w fun | .returned v, w' => R v w' | _, _ => False := by
  have := h { dst := some 0, op := .move (.tmp 0), type := 0, pos := "", after := #[], guard := none } ⟨#[undef], []⟩ (fun a w' => R (a.tmps.getD 0 undef) w') (fun _ _ _ => False) (fun v w' hr => by simpa [Act.put] using hr)
  rw [MuLone.run_callFunc_enter hf hname hb, Oper.upon_enter] at this
  refine this.mono fun x w' hx => ?_
  cases x with
  | returned v => simpa [Act.put] using hx
  | panicked ch => exact hx
  | outgrown => obtain ⟨_, _, hx⟩ := hx; exact hx
theorem memWr_rep (l i a b : Nat) : ∀ n, memWr l i [(a, b)] = false → memWr l i (repApp n [(a, b)]) = false
  | 0, _ => rfl
  | n + 1, h => by
    simp only [repApp, memWr_app, memWr_rep l i a b n h, h, Bool.or_self]
theorem cond_eq {α : Type} {b : Bool} {x y : α} (h : b = true) : (bif b then x else y) = x := by rw [h]; rfl
theorem cond_ne {α : Type} {b : Bool} {x y : α} (h : b = false) : (bif b then x else y) = y := by rw [h]; rfl
theorem at_some {α : Type} {xs : List α} {i : Nat} {x : α} (h : xs[i]? = some x) : at? xs (i : Int) = some x := by
  unfold at?
  rw [if_pos (by omega)]
  simpa using h
def stripI : List AV → List AV → Option (List AV)
  | [], cs => some cs
  | .int k n :: r, .int k' n' :: r' => match kindEq k k', n == n' with | some _, true => stripI r r' | _, _ => none
  | _, _ => none
theorem stripI_some : ∀ {p cs r : List AV}, stripI p cs = some r → cs = p ++ r
  | [], cs, r, h => by cases h; rfl
  | .int k n :: p, .int k' n' :: cs, r, h => by
    simp only [stripI] at h
    split at h
    · rename_i q hq hn
      cases q with
      | up h0 =>
        subst h0
        have := stripI_some h
        rw [this]
        simp only [beq_iff_eq] at hn
        subst hn
        rfl
    · cases h
  | .int _ _ :: _, [], _, h => by cases h
  | .undef :: _, _, _, h => by cases h
  | .bool _ :: _, _, _, h => by cases h
  | .str _ :: _, _, _, h => by cases h
  | .slice _ _ _ :: _, _, _, h => by cases h
  | .ptr _ _ _ :: _, _, _, h => by cases h
  | .nilp :: _, _, _, h => by cases h
  | .cptr _ _ :: _, _, _, h => by cases h
  | .func _ _ _ :: _, _, _, h => by cases h
  | .nilf :: _, _, _, h => by cases h
  | .agg _ :: _, _, _, h => by cases h
  | .tuple _ :: _, _, _, h => by cases h
  | .int _ _ :: _, .undef :: _, _, h => by cases h
  | .int _ _ :: _, .bool _ :: _, _, h => by cases h
  | .int _ _ :: _, .str _ :: _, _, h => by cases h
  | .int _ _ :: _, .slice _ _ _ :: _, _, h => by cases h
  | .int _ _ :: _, .ptr _ _ _ :: _, _, h => by cases h
  | .int _ _ :: _, .nilp :: _, _, h => by cases h
  | .int _ _ :: _, .cptr _ _ :: _, _, h => by cases h
  | .int _ _ :: _, .func _ _ _ :: _, _, h => by cases h
  | .int _ _ :: _, .nilf :: _, _, h => by cases h
  | .int _ _ :: _, .agg _ :: _, _, h => by cases h
  | .int _ _ :: _, .tuple _ :: _, _, h => by cases h
end Go.Vm
namespace Go.Vm
variable {P : Program} {A : AbsR}
theorem SimCall.nilsplit {g : FuncId} {T : Ty} {xs : List T.interp} {rest : List AV} {S : Stack} {res : Res} (h1 : SimCall P A g (.slice T xs .nn :: rest) S res) (h2 : xs = [] → SimCall P A g (.slice T xs .nilv :: rest) S res) : SimCall P A g (.slice T xs .view :: rest) S res := by
  intro e vs w hw hH hA
  obtain ⟨g1, g2⟩ := hA
  have hl : 0 < vs.toList.length := by rw [← g1]; simp
  have hv := g2 0 _ _ rfl (List.getElem?_eq_getElem hl)
  simp only [VR] at hv
  obtain ⟨⟨a, len, cap, q1, q2, q3, q4, q5, q6⟩, _⟩ := hv
  have key : ∀ lv, LvR e (some (.io 0 0)) T.size (vs.toList[0]) lv → ArgsR e (.slice T xs lv :: rest) vs.toList := by
    intro lv hlv
    refine ⟨by simpa using g1, fun i x v hx hv => ?_⟩
    cases i with
    | zero =>
      simp at hx; subst hx
      rw [List.getElem?_eq_getElem hl] at hv; cases hv
      simp only [VR]
      exact ⟨⟨a, len, cap, q1, q2, q3, q4, q5, q6⟩, hlv⟩
    | succ i => exact g2 (i + 1) x v (by simpa using hx) hv
  cases a with
  | none =>
    have hc : cap = 0 := q5 rfl
    have hx : xs = [] := List.eq_nil_of_length_eq_zero (by omega)
    have hlen : len = 0 := by omega
    exact h2 hx e vs w hw hH (key .nilv (by rw [q1, hc, hlen]; rfl))
  | some ad => exact h1 e vs w hw hH (key .nn ⟨ad, len, cap, q1⟩)
end Go.Vm
/- Loops over rows, told once. -/
set_option linter.unusedVariables false
namespace Go.Vm
theorem wrap_next {j n : Nat} (h : j < n) (hn : n ≤ maxInt) : IntKind.i64.wrap ((j : Int) + 1) = ((j + 1 : Nat) : Int) := by
  simp only [maxInt] at hn
  rw [wrap_i64 (by omega) (by omega)]; omega
end Go.Vm
/- Loops over two rows; loops that are counted. -/
set_option linter.unusedVariables false
namespace Go.Vm
end Go.Vm
/- Loops that go down; loops that stop. -/
set_option linter.unusedVariables false
namespace Go.Vm
end Go.Vm
/- Laws that store an element of a row of bytes of their own. -/
set_option linter.unusedVariables false
set_option linter.unusedSimpArgs false
namespace Go.Vm
open Go.RowKit (Below)
variable {K : Nat → Prop} {P : Program} {n : Nat} {A : AbsR} {e e0 : Env} {s : RS} {a a0 : Act} {w w0 : World} {o : Oper} {cf : CallK} {cfg : Cfg}
structure GL (e0 : Env) (w0 : World) (e : Env) (w : World) : Prop where
  os : w.os = w0.os
  tape : w.tape = w0.tape
  output : w.output = w0.output
  size : w0.heap.size ≤ w.heap.size
  blk : ∀ b, b < w0.heap.size → w.heap[b]? = w0.heap[b]? ∧ e.own b = none ∧ ∀ o, e.cl b o = e0.cl b o
theorem GL.grow {e' : Env} {w' : World} {wr : Wr} (h : GL e0 w0 e w) (g : Grow1 e w e' w' wr) : GL e0 w0 e' w' where
  os := g.os.trans h.os
  tape := g.tape.trans h.tape
  output := g.output.trans h.output
  size := Nat.le_trans h.size g.size
  blk := fun b hb => by
    obtain ⟨h1, h2, h3⟩ := h.blk b hb
    obtain ⟨g1, g2, g3⟩ := g.stay b (Nat.lt_of_lt_of_le hb h.size) (.inl h2)
    exact ⟨g1.trans h1, g2.trans h2, fun o => (g3 o).trans (h3 o)⟩
theorem GL.put {D : Nat} {o : Obj} (h : GL e0 w0 e w) (hD : w0.heap.size ≤ D) : GL e0 w0 e (w.putObj D o) where
  os := h.os
  tape := h.tape
  output := h.output
  size := by rw [World.putObj_size]; exact h.size
  blk := fun b hb => by
    obtain ⟨h1, h2, h3⟩ := h.blk b hb
    exact ⟨by rw [World.putObj_heap_other (by omega)]; exact h1, h2, h3⟩
def CPostL (K : Nat → Prop) (n : Nat) (A : AbsR) (e0 : Env) (a0 : Act) (w0 : World) (ex : Ex) (fr : Fr) (H : Stack) (x : Exit) (a' : Act) (w' : World) : Prop :=
  exMatch ex x ∧ ∃ e', CR n A e' fr H a' w' ∧ GL e0 w0 e' w' ∧ Kept K a0 w0 e' a' w'
abbrev Est := Nat → Option (List Oper → Fr → Stack → Wr → Kont → Option Res)
def codeL (P : Program) (cf : CallK) (cfg : Cfg) (lf : Nat → Option LoopSum) (live : Nat → Option (List Nat)) (est : Est) : Code → Nat → Fr → Stack → Wr → Kont → Option Res
  | .region id ops drawn, p, fr, H, wr, k => match est p with
    | some E => E ops.toList fr H wr k
    | none => code P cf cfg lf live (.region id ops drawn) p fr H wr k
  | .seq a b, p, fr, H, wr, k => codeL P cf cfg lf live est a (2 * p) fr H wr fun ex fr' H' wr' =>
    match ex with
    | .normal => codeL P cf cfg lf live est b (2 * p + 1) fr' H' wr' k
    | ex => k ex fr' H' wr'
  | .cond c a b, p, fr, H, wr, k => match c with
    | .tmp t => match fr t with
      | .bool x => bif x then codeL P cf cfg lf live est a (2 * p) fr H wr k else codeL P cf cfg lf live est b (2 * p + 1) fr H wr k
      | _ => none
    | _ => none
  | c, p, fr, H, wr, k => code P cf cfg lf live c p fr H wr k
def BodyL (K : Nat → Prop) (P : Program) (n : Nat) (A : AbsR) (e0 : Env) (a0 : Act) (w0 : World) (c : Code) (bodyC : Fr → Stack → Wr → Kont → Option Res) : Prop :=
  ∀ fr H wr (k : Kont) r, bodyC fr H wr k = some r → ∃ ex fr' H' wr', k ex fr' H' wr' = some r ∧ ∀ e a w, CR n A e fr H a w → GL e0 w0 e w → Kept K a0 w0 e a w → c.wp P (CPostL K n A e0 a0 w0 ex fr' H') a w
theorem BodyOK.law {c : Code} {bodyC : Fr → Stack → Wr → Kont → Option Res} (h : BodyOK K P n A c bodyC) : BodyL K P n A e0 a0 w0 c bodyC := fun fr H wr k r hr => by
  obtain ⟨ex, fr', H', wr', h1, _, h3⟩ := h fr H wr k r hr
  refine ⟨ex, fr', H', wr', h1, fun e a w hC hG hK => wp_mono (h3 e a w hC) fun x a' w' hq => ?_⟩
  obtain ⟨hx, e1, g1, g2, g3, g4⟩ := hq
  exact ⟨hx, e1, g1, hG.grow g2, g4.trans hK hG.size g2⟩
def CodeLOK (K : Nat → Prop) (P : Program) (cf : CallK) (cfg : Cfg) (lf : Nat → Option LoopSum) (live : Nat → Option (List Nat)) (est : Est) (n : Nat) (A : AbsR) (e0 : Env) (a0 : Act) (w0 : World) : Code → Nat → Prop
  | .region id ops dr, p => match est p with
    | some E => BodyL K P n A e0 a0 w0 (.region id ops dr) (E ops.toList)
    | none => CodeOK A P cf cfg lf live n (.region id ops dr) p ∧ CodeK K (.region id ops dr)
  | .seq x y, p => CodeLOK K P cf cfg lf live est n A e0 a0 w0 x (2 * p) ∧ CodeLOK K P cf cfg lf live est n A e0 a0 w0 y (2 * p + 1)
  | .cond c x y, p => opdB n c = true ∧ CodeLOK K P cf cfg lf live est n A e0 a0 w0 x (2 * p) ∧ CodeLOK K P cf cfg lf live est n A e0 a0 w0 y (2 * p + 1)
  | c, p => CodeOK A P cf cfg lf live n c p ∧ CodeK K c
theorem codeL_sim (hcf : CfOK P A cf) {lf : Nat → Option LoopSum} {live : Nat → Option (List Nat)} {est : Est} : ∀ (c : Code) (p : Nat), CodeLOK K P cf cfg lf live est n A e0 a0 w0 c p → BodyL K P n A e0 a0 w0 c (fun fr H wr k => codeL P cf cfg lf live est c p fr H wr k)
  | .region id ops dr, p, hc, fr, H, wr, k, r, h => by
    simp only [codeL] at h
    simp only [CodeLOK] at hc
    cases hE : est p with
    | some E => rw [hE] at h hc; exact hc fr H wr k r h
    | none => rw [hE] at h hc; exact (code_sim hcf _ p hc.1 hc.2).law fr H wr k r h
  | .seq x y, p, hc, fr, H, wr, k, r, h => by
    simp only [codeL] at h
    simp only [CodeLOK] at hc
    obtain ⟨ex, fr1, H1, wr1, h1, h3⟩ := codeL_sim hcf x (2 * p) hc.1 fr H wr _ r h
    cases ex with
    | normal =>
      obtain ⟨ex, fr2, H2, wr2, k1, k3⟩ := codeL_sim hcf y (2 * p + 1) hc.2 fr1 H1 wr1 k r h1
      refine ⟨ex, fr2, H2, wr2, k1, fun e a w hC hG hK => wp_seq (wp_mono (h3 e a w hC hG hK) fun x' a' w' hq => ?_)⟩
      obtain ⟨hx, e1, g1, g2, g3⟩ := hq
      cases x' <;> simp only [exMatch] at hx
      exact k3 e1 a' w' g1 g2 g3
    | exit i =>
      refine ⟨.exit i, fr1, H1, wr1, h1, fun e a w hC hG hK => wp_seq (wp_mono (h3 e a w hC hG hK) fun x' a' w' hq => ?_)⟩
      have hx := hq.1
      cases x' <;> simp only [exMatch] at hx
      exact hq
    | ret =>
      refine ⟨.ret, fr1, H1, wr1, h1, fun e a w hC hG hK => wp_seq (wp_mono (h3 e a w hC hG hK) fun x' a' w' hq => ?_)⟩
      have hx := hq.1
      cases x' <;> simp only [exMatch] at hx
      exact hq
  | .cond c x y, p, hc, fr, H, wr, k, r, h => by
    simp only [codeL] at h
    simp only [CodeLOK] at hc
    cases c with
    | tmp t =>
      simp only at h
      cases ht : fr t with
      | bool b =>
        rw [ht] at h
        simp only at h
        have hev : ∀ e a w, CR n A e fr H a w → a.eval (.tmp t) = .bool b := fun e a w hC => by
          have := hC.fr.val t (opdB_ok hc.1)
          rw [ht] at this
          simp only [VR] at this
          exact this
        rcases cond_some h with ⟨rfl, h⟩ | ⟨rfl, h⟩
        · obtain ⟨ex, fr1, H1, wr1, h1, h3⟩ := codeL_sim hcf x (2 * p) hc.2.1 fr H wr _ r h
          exact ⟨ex, fr1, H1, wr1, h1, fun e a w hC hG hK => wp_cond (hev e a w hC) (h3 e a w hC hG hK)⟩
        · obtain ⟨ex, fr1, H1, wr1, h1, h3⟩ := codeL_sim hcf y (2 * p + 1) hc.2.2 fr H wr _ r h
          exact ⟨ex, fr1, H1, wr1, h1, fun e a w hC hG hK => wp_cond (hev e a w hC) (h3 e a w hC hG hK)⟩
      | _ => rw [ht] at h; cases h
    | _ => cases h
  | .skip, p, hc, fr, H, wr, k, r, h => (code_sim hcf _ p hc.1 hc.2).law fr H wr k r h
  | .label _, p, hc, fr, H, wr, k, r, h => (code_sim hcf _ p hc.1 hc.2).law fr H wr k r h
  | .ret, p, hc, fr, H, wr, k, r, h => (code_sim hcf _ p hc.1 hc.2).law fr H wr k r h
  | .exit _, p, hc, fr, H, wr, k, r, h => (code_sim hcf _ p hc.1 hc.2).law fr H wr k r h
  | .block _ c, p, hc, fr, H, wr, k, r, h => (code_sim hcf _ p hc.1 hc.2).law fr H wr k r h
  | .scope c, p, hc, fr, H, wr, k, r, h => (code_sim hcf _ p hc.1 hc.2).law fr H wr k r h
  | .loop c, p, hc, fr, H, wr, k, r, h => (code_sim hcf _ p hc.1 hc.2).law fr H wr k r h
  | .goto _, p, hc, fr, H, wr, k, r, h => (code_sim hcf _ p hc.1 hc.2).law fr H wr k r h
  | .rangeFunc .., p, hc, fr, H, wr, k, r, h => (code_sim hcf _ p hc.1 hc.2).law fr H wr k r h
  | .refuse _, p, hc, fr, H, wr, k, r, h => (code_sim hcf _ p hc.1 hc.2).law fr H wr k r h
def keepI : AV → AV
  | .bool b => .bool b
  | .int k n => .int k n
  | .str s => .str s
  | .ptr l i o => .ptr l i o
  | .nilp => .nilp
  | _ => .undef
def dropOb : Ob → Ob
  | .cells cs => .cells (mapN keepI cs)
  | o => o
theorem dropOb_hb {x : Ob} {q : Option Obj} {c : Array Value} {ty : TypeId} {fz : Nat × Nat} (k : HB q c ty fz x) : HB q c ty fz (dropOb x) := by
  cases x <;> exact k
def dropH : Stack → Stack
  | [] => []
  | l :: S => mapN dropOb l :: dropH S
theorem keepI_VR {e e' : Env} {p p' : Option Pl} {q q' : Option (Nat → Pl)} (hr : RhoLe e e') : ∀ {x : AV} {v : Value}, VR e p q x v → VR e' p' q' (keepI x) v
  | .undef, _, _ => by simp [keepI, VR]
  | .bool _, _, h => by simpa [keepI, VR] using h
  | .int _ _, _, h => by simpa [keepI, VR] using h
  | .str _, _, h => by simpa [keepI, VR] using h
  | .slice _ _ _, _, _ => by simp [keepI, VR]
  | .ptr _ _ _, _, h => by
    simp only [keepI, VR] at h ⊢
    obtain ⟨b, h1, h2⟩ := h
    exact ⟨b, hr _ _ _ h1, h2⟩
  | .nilp, _, h => by simpa [keepI, VR] using h
  | .cptr _ _, _, _ => by simp [keepI, VR]
  | .func _ _ _, _, _ => by simp [keepI, VR]
  | .nilf, _, _ => by simp [keepI, VR]
  | .agg _, _, _ => by simp [keepI, VR]
  | .tuple _, _, _ => by simp [keepI, VR]
theorem getH_drop : ∀ (H : Stack) (l i : Nat), getH (dropH H) l i = (getH H l i).map dropOb
  | [], l, i => by simp [dropH, getH]
  | a :: S, 0, i => by simp only [dropH, getH, nth_eq, mapN_eq, List.getElem?_map]
  | a :: S, l + 1, i => by simp only [dropH, getH]; exact getH_drop S l i
theorem Par.drop : ∀ {R : Rho} {H : Stack}, Par R H → Par R (dropH H)
  | [], [], _ => trivial
  | r :: R, l :: S, h => by simp only [Par, dropH, mapN_eq, List.length_map] at h ⊢; exact ⟨h.1, Par.drop h.2⟩
  | [], _ :: _, h => h.elim
  | _ :: _, [], h => h.elim
def estFr (fr0 fr : Fr) (ks : List Nat) (sl tP : Nat) (v : AV) : Fr := fun t => bif Nat.beq t tP then .undef else bif Nat.beq t sl then v else bif memN t ks then strip (fr0 t) else keepI (fr t)
def estE (P : Program) (cf : CallK) (cfg : Cfg) (n : Nat) (fr0 : Fr) (ks : List Nat) (pre ops : List Oper) (tS tI tV tP : Nat) : Fr → Stack → Wr → Kont → Option Res := fun fr H wr k =>
  opers P cf cfg false ops pre { fr, als := noAls, H, wr := [], lds := noLds } fun s =>
    match s.als tS, s.fr tI, s.fr tV with
    | some (.slot sl), .int _ i, .int .u8 v => match s.fr sl with
      | .slice (.int .u8) xs .mine => bif (decide (0 ≤ i) && decide (i < (xs.length : Int))) && Nat.blt sl n then
          k .normal (estFr fr0 s.fr ks sl tP (.slice (.int .u8) (setAt xs i.toNat v) .mine)) (dropH s.H) wr
        else none
      | _ => none
    | _, _, _ => none
theorem opers_steps' (hcf : CfOK P A cf) {dr : Bool} {ops : List Oper} {k : RS → Option Res} {r : Res} : ∀ (rest : List Oper) (i : Nat) (s : RS), (∀ j x, rest[j]? = some x → ops[i + j]? = some x) → opers P cf cfg dr ops rest s k = some r → ∃ s', steps P cf cfg dr ops (List.range' i rest.length) s = some s' ∧ k s' = some r
  | [], i, s, hr, h => ⟨s, rfl, h⟩
  | o :: rest, i, s, hr, h => by
    have h0 : ops[i]? = some o := by simpa using hr 0 o (by simp)
    have hr' : ∀ j x, rest[j]? = some x → ops[i + 1 + j]? = some x := fun j x hx => by have := hr (j + 1) x (by simpa using hx); simpa [Nat.add_assoc, Nat.add_comm 1 j] using this
    simp only [opers] at h
    simp only [List.length_cons, List.range'_succ, steps, h0]
    rcases guarded_wanted h with ⟨hw, h⟩ | ⟨hw, h⟩
    · obtain ⟨s1, v, l, h1, h2⟩ := run_run1 hcf h
      obtain ⟨s', k1, k2⟩ := opers_steps' hcf rest (i + 1) _ hr' h2
      exact ⟨s', by simp only [step1, hw, h1]; exact k1, k2⟩
    · obtain ⟨s', k1, k2⟩ := opers_steps' hcf rest (i + 1) _ hr' h
      exact ⟨s', by simp only [step1, hw]; exact k1, k2⟩
def thenQ (P : Program) (ops : Array Oper) (Q : Exit → Act → World → Prop) (l2 : List Nat) : Exit → Act → World → Prop
  | .normal, a, w => wpOps P ops Q l2 a w
  | .exit i, a, w => Q (.exit i) a w
  | .goto i, a, w => Q (.goto i) a w
  | .ret, a, w => Q .ret a w
  | .panic c, a, w => Q (.panic c) a w
  | .outgrown, a, w => Q .outgrown a w
theorem upon_thenQ {ops : Array Oper} {Q : Exit → Act → World → Prop} {l2 : List Nat} {Kn : Act → World → Prop} {r : Result Next} (h : o.upon P a Kn (thenQ P ops Q l2) r) : o.upon P a Kn Q r := by
  cases r with
  | ok nx w' =>
    cases nx with
    | enter f args => exact Calls.mono h fun e w'' he => by cases e <;> exact he
    | _ => exact h
  | halt x w' => cases x <;> exact h
theorem wpOps_app {ops : Array Oper} {Q : Exit → Act → World → Prop} {l2 : List Nat} : ∀ (l1 : List Nat) (a : Act) (w : World), wpOps P ops (thenQ P ops Q l2) l1 a w → wpOps P ops Q (l1 ++ l2) a w
  | [], a, w, h => h
  | i :: l1, a, w, h => by
    rw [List.cons_append]
    simp only [wpOps] at h ⊢
    cases ho : ops[i]? with
    | none => rw [ho] at h; exact wpOps_app l1 a w h
    | some o =>
      rw [ho] at h
      simp only at h ⊢
      split at h
      · rename_i hw
        rw [if_pos hw]
        rcases h with h | h
        · left
          have h' : o.wp P a w (wpOps P ops (thenQ P ops Q l2) l1) Q := upon_thenQ h
          exact Oper.wp_mono (fun a w hh => wpOps_app l1 a w hh) h'
        · exact .inr h
      · rename_i hw
        rw [if_neg hw]
        exact wpOps_app l1 _ w h
theorem est_core {fr0 : Fr} {ks : List Nat} {tS tI tP sl : Nat} {i v : Int} {ki : IntKind} {xs : List Int} (hR : RR n A e s a w) (hG : GL e0 w0 e w) (hK : Kept (fun t => t ∈ ks) a0 w0 e a w) (hw0 : WOK e0 w0) (hr0 : ∀ l i, rhoAt e0.rho l i = none) (hfr0 : FRel n e0 fr0 a0)
    (hsl : sl < n) (hI : VR e none none (.int ki i) (Act.at a tI)) (hS : Act.at a tS = Act.at a sl) (hx : s.fr sl = .slice (.int .u8) xs .mine) (h0 : 0 ≤ i) (h1 : i < (xs.length : Int)) (hv : IntKind.u8.has v) :
    ∃ b len cap c ty fz, Act.at a sl = .slice (some ⟨b, 0, none⟩) len cap ∧ xs.length = len ∧ i.toNat < c.size ∧ w.heap[b]? = some (.cells c ty fz) ∧ (fz.1 = fz.2 ∨ c.size ≤ fz.1) ∧
      ∀ (w2 : World) (u : Value), w2.heap[b]? = some (.cells (putL c.toList i.toNat [.int .u8 v]).toArray ty fz) → (∀ k, k ≠ b → w2.heap[k]? = w.heap[k]?) → w2.heap.size = w.heap.size → w2.os = w.os → w2.tape = w.tape → w2.output = w.output → tP ∉ ks → tP < n →
        ∃ e2, CR n A e2 (estFr fr0 s.fr ks sl tP (.slice (.int .u8) (setAt xs i.toNat v) .mine)) (dropH s.H) (a.put (some tP) u) w2 ∧ GL e0 w0 e2 w2 ∧ Kept (fun t => t ∈ ks) a0 w0 e2 (a.put (some tP) u) w2 := by
  have hvx := hR.fr.val sl hsl
  rw [hx] at hvx
  simp only [VR] at hvx
  obtain ⟨⟨ad, len, cap, q1, q2, q3, q4, q5, q6⟩, b, len', cap', m, pl, p1, p2, p3, p4, p5⟩ := hvx
  rw [q1] at p1
  cases p1
  cases p2
  obtain ⟨c, ty, lo, hi, m1, m2, m3⟩ := (hR.wok.free b _ _ p3).row rfl
  have hil : i.toNat < len := by omega
  have hic : i.toNat < c.size := by
    rw [m2]
    have : cap ≤ cap * (Ty.int IntKind.u8).size := by simp [Ty.size]
    omega
  refine ⟨b, len, cap, c, ty, (lo, hi), q1, q2, hic, m1, by rw [m2]; exact m3, fun w2 u k1 k2 k3 k4 k5 k6 k7 k8 => ?_⟩
  have hput : ∀ j, (putL c.toList i.toNat [.int .u8 v])[j]? = if j = i.toNat then some (.int .u8 v) else c.toList[j]? := by
    intro j
    rw [putL_get _ _ _ _ (by simp; omega)]
    simp only [List.length_cons, List.length_nil]
    by_cases hj : j = i.toNat
    · subst hj; rw [if_pos (by omega), if_pos rfl]; simp
    · rw [if_neg (by omega), if_neg hj]
  have hbb : ∀ l i b', rhoAt e.rho l i = some b' → b' ≠ b := by
    intro l i b' hb' he
    obtain ⟨m', hm'⟩ := hR.hr.noown hb'
    rw [he, p3] at hm'
    simp at hm'
  let e2 : Env := { rho := e.rho, own := e.own, cl := fun b' o => if b' = b ∧ o = i.toNat then some (.int .u8 v) else e.cl b' o }
  have hcl0 : ClLe e0.cl e2.cl := by
    intro b' o z hz
    have hlt : b' < w0.heap.size := by
      have := hw0.holds b' o z hz
      simp only [World.cell?] at this
      rcases Nat.lt_or_ge b' w0.heap.size with h | h
      · exact h
      · rw [Array.getElem?_eq_none h] at this; simp at this
    obtain ⟨g1, g2, g3⟩ := hG.blk b' hlt
    have hne : b' ≠ b := by intro he; rw [he, p3] at g2; cases g2
    show (if b' = b ∧ o = i.toNat then some (.int .u8 v) else e.cl b' o) = some z
    rw [if_neg (fun hh => hne hh.1), g3]
    exact hz
  have hr2 : RhoLe e e2 := fun _ _ _ h => h
  refine ⟨e2, ⟨⟨fun b' o z hz => ?_, fun b' p k hp => ?_⟩, ⟨hR.hr.par.drop, fun l' i' x hgx => ?_⟩, ⟨by simp [Act.put, hR.fr.size], fun t ht => ?_⟩⟩, ⟨k4.trans hG.os, k5.trans hG.tape, k6.trans hG.output, by rw [k3]; exact hG.size, fun b' hb' => ?_⟩, ⟨fun t ht => ((Keep.put a u (fun t ht => by cases ht; exact k7)).slot t ht).trans (hK.slot t ht), ?_⟩⟩
  · have hz : (if b' = b ∧ o = i.toNat then some (Value.int .u8 v) else e.cl b' o) = some z := hz
    by_cases hb : b' = b
    · subst hb
      simp only [World.cell?, k1]
      by_cases ho : o = i.toNat
      · subst ho
        rw [if_pos ⟨rfl, rfl⟩] at hz
        have := hput i.toNat
        rw [if_pos rfl] at this
        simpa [this] using hz
      · rw [if_neg (fun hh => ho hh.2)] at hz
        have h3 := hR.wok.holds b' o z hz
        simp only [World.cell?, m1] at h3
        have := hput o
        rw [if_neg ho] at this
        simp [this]
        simpa using h3
    · rw [if_neg (fun hh => hb hh.1)] at hz
      rw [cell_of_heap (k2 b' hb)]
      exact hR.wok.holds b' o z hz
  · by_cases hb : b' = b
    · subst hb
      exact (hR.wok.free b' p k hp).cells m1 k1 (by simp [putL_length]) ((hR.wok.free b' p k hp).of m1).2
    · exact (hR.wok.free b' p k hp).to (k2 b' hb)
  · rw [getH_drop] at hgx
    cases hg : getH s.H l' i' with
    | none => rw [hg] at hgx; cases hgx
    | some x0 =>
      rw [hg] at hgx
      simp only [Option.map_some, Option.some.injEq] at hgx
      subst hgx
      obtain ⟨b', hb', c', ty', fz', g1, g2, g3, g4⟩ := hR.hr.ob l' i' x0 hg
      have hne := hbb l' i' b' hb'
      refine ⟨b', hb', c', ty', fz', by rw [k2 b' hne]; exact dropOb_hb g1, g2, fun o => ?_, ?_⟩
      · show (if b' = b ∧ o = i.toNat then some (Value.int .u8 v) else e.cl b' o) = none
        rw [if_neg (fun hh => hne hh.1)]; exact g3 o
      · cases x0 with
        | abs _ _ => exact g4
        | map _ => trivial
        | cells cs =>
          simp only [dropOb]
          refine ⟨by rw [mapN_eq, List.length_map]; exact g4.1, fun o av u' h1 h2 => ?_⟩
          rw [mapN_eq, List.getElem?_map] at h1
          cases hc : cs[o]? with
          | none => rw [hc] at h1; cases h1
          | some av0 =>
            rw [hc] at h1
            simp only [Option.map_some, Option.some.injEq] at h1
            subst h1
            exact keepI_VR (e := e.dr l') (e' := e2.dr l') (fun _ _ _ h => h) (g4.2 o av0 u' hc h2)
  · have hsz : tP < a.tmps.size := by rw [hR.fr.size]; exact k8
    rw [Act.at_put a tP t u hsz]
    unfold estFr
    by_cases htP : t = tP
    · rw [(beq_iff t tP).2 htP, cond_true]; simp [VR]
    · rw [beq_false.2 htP, cond_false, if_neg htP]
      by_cases hts : t = sl
      · subst hts
        rw [(beq_iff t t).2 rfl, cond_true, q1]
        simp only [VR]
        refine ⟨⟨_, len, cap, rfl, by rw [setAt_eq, List.length_set]; exact q2, q3, q4, by simp, fun j x hj => ?_⟩, b, len, cap, m, _, rfl, rfl, p3, p4, fun o ho => ?_⟩
        · rw [setAt_eq, List.getElem?_set] at hj
          by_cases hji : i.toNat = j
          · rw [if_pos hji] at hj
            rw [if_pos (by omega)] at hj
            cases hj
            refine ⟨b, 0, [.int .u8 v], rfl, ⟨rfl, hv⟩, fun j' u' hu => ?_⟩
            cases j' with
            | zero =>
              simp at hu; subst hu
              show (if b = b ∧ 0 + (j * (Ty.int IntKind.u8).size + 0) = i.toNat then some (Value.int .u8 v) else _) = _
              rw [if_pos ⟨rfl, by simp [Ty.size]; omega⟩]
            | succ j' => simp at hu
          · rw [if_neg hji] at hj
            obtain ⟨b', off, es, e1, e2', e3⟩ := q6 j x hj
            cases e1
            refine ⟨b, 0, es, rfl, ⟨e2'.1, e2'.2⟩, fun j' u' hu => ?_⟩
            show (if b = b ∧ 0 + (j * (Ty.int IntKind.u8).size + j') = i.toNat then some (Value.int .u8 v) else e.cl b _) = _
            have hj' : j' = 0 := by
              have h1 := e2'.1
              rw [h1] at hu
              cases j' with
              | zero => rfl
              | succ j' => simp at hu
            rw [if_neg (fun hh => hji (by have := hh.2; rw [hj'] at this; simp [Ty.size] at this; omega))]
            exact e3 j' u' hu
        · show (if b = b ∧ o = i.toNat then some (Value.int .u8 v) else e.cl b o) = none
          have : len * (Ty.int IntKind.u8).size = len := by simp [Ty.size]
          rw [if_neg (fun hh => by have := hh.2; omega)]
          exact p5 o ho
      · rw [beq_false.2 hts, cond_false]
        cases hm : memN t ks with
        | true =>
          rw [cond_true]
          have hin : t ∈ ks := (memN_iff t ks).1 hm
          rw [hK.slot t hin]
          exact VR.strip_to (e := e0) (e' := e2) (fun l i b hb => by rw [hr0] at hb; cases hb) hcl0 (hfr0.val t ht)
        | false =>
          rw [cond_false]
          exact keepI_VR hr2 (hR.fr.val t ht)
  · obtain ⟨g1, g2, g3⟩ := hG.blk b' hb'
    have hne : b' ≠ b := by intro he; rw [he, p3] at g2; cases g2
    refine ⟨(k2 b' hne).trans g1, g2, fun o => ?_⟩
    show (if b' = b ∧ o = i.toNat then some (Value.int .u8 v) else e.cl b' o) = _
    rw [if_neg (fun hh => hne hh.1)]
    exact g3 o
  · obtain ⟨ms, d1, d2, d3⟩ := hK.marks
    refine ⟨ms, d1, d2, fun D hD => ?_⟩
    obtain ⟨z1, z2, z3⟩ := d3 D hD
    have hne : D ≠ b := fun he => by rw [he, m1] at z2; cases z2
    exact ⟨z1, by rw [k2 D hne]; exact z2, z3⟩
def estAt (P : Program) (cf : CallK) (cfg : Cfg) (n : Nat) (fr0 : Fr) (ks : List Nat) (q tS tI tV tP : Nat) : List Oper → Fr → Stack → Wr → Kont → Option Res := fun ops => estE P cf cfg n fr0 ks (tkN q ops) ops tS tI tV tP
def guardNone (o : Oper) : Bool := match o.guard with | none => true | some _ => false
def dstIs (o : Oper) (t : Nat) : Bool := match o.dst with | some d => Nat.beq d t | none => false
def dstNone (o : Oper) : Bool := match o.dst with | some _ => false | none => true
def noDst (ks : List Nat) : List Oper → Bool
  | [] => true
  | o :: r => (match o.dst with | some d => !memN d ks | none => true) && noDst ks r
theorem noDst_ok {ks : List Nat} : ∀ {l : List Oper}, noDst ks l = true → ∀ o ∈ l, ∀ d, o.dst = some d → d ∉ ks
  | [], _, o, ho => by cases ho
  | x :: r, h, o, ho => fun d hd => by
    simp only [noDst, Bool.and_eq_true] at h
    rcases List.mem_cons.1 ho with rfl | ho
    · have h1 := h.1
      rw [hd] at h1
      exact memN_false h1
    · exact noDst_ok h.2 o ho d hd
def isA (oA : Oper) (xt tS tI : Nat) : Bool := match oA.op with | .indexAddr x (.tmp a) (.tmp b) => Nat.beq x xt && (Nat.beq a tS && Nat.beq b tI) | _ => false
def isB (oB : Oper) (et tP tV : Nat) : Bool := match oB.op with | .store x (.tmp a) (.tmp b) => Nat.beq x et && (Nat.beq a tP && Nat.beq b tV) | _ => false
def bodyL (P : Program) (cf : CallK) (cfg : Cfg) (lf : Nat → Option LoopSum) (est : Est) (g : Nat) (args : List AV) : Option Res :=
  match P.funcs[g]? with
  | some fn => match fn.body with
    | some c => bif Nat.ble (lenN args) fn.ntmps then
        codeL P cf cfg lf (cfg.live g) est c 1 (nthD (up.ups args)) [[]] [] fun ex fr H wr =>
        match ex with
        | .exit _ => none
        | _ => match resVals P fr H fn.results.toList with
          | some vs => some (strip (resOf vs), [], [])
          | none => none
      else none
    | none => none
  | none => none
def codeLB (P : Program) (n : Nat) (ps ks : List Nat) : Code → Nat → Bool
  | .region _ ops dr, p => memN p ps || (opsB n ops.toList && (!dr || drawB P ops.toList) && ops.toList.all fun o => match o.dst with | some d => !memN d ks | none => true)
  | .seq x y, p => codeLB P n ps ks x (2 * p) && codeLB P n ps ks y (2 * p + 1)
  | .cond c x y, p => opdB n c && (codeLB P n ps ks x (2 * p) && codeLB P n ps ks y (2 * p + 1))
  | .skip, _ => true
  | .label _, _ => true
  | .ret, _ => true
  | .exit _, _ => true
  | _, _ => false
def regAt : Code → Nat → List (Nat × Nat × Array Oper × Bool)
  | .region id ops dr, p => [(p, id, ops, dr)]
  | .seq x y, p => regAt x (2 * p) ++ regAt y (2 * p + 1)
  | .cond _ x y, p => regAt x (2 * p) ++ regAt y (2 * p + 1)
  | _, _ => []
theorem codeLB_ok {lf : Nat → Option LoopSum} {live : Nat → Option (List Nat)} {est : Est} {ps ks : List Nat} (hcf : CfOK P A cf) (hm : P.follows .mixedOrders = true) (hps : ∀ p, memN p ps = (est p).isSome) : ∀ (c : Code) (p : Nat), codeLB P n ps ks c p = true → (∀ x ∈ regAt c p, ∀ E, est x.1 = some E → BodyL (fun t => t ∈ ks) P n A e0 a0 w0 (.region x.2.1 x.2.2.1 x.2.2.2) (E x.2.2.1.toList)) → CodeLOK (fun t => t ∈ ks) P cf cfg lf live est n A e0 a0 w0 c p
  | .region id ops dr, p, h, hr => by
    simp only [CodeLOK]
    cases hE : est p with
    | some E => exact hr (p, id, ops, dr) (by simp [regAt]) E hE
    | none =>
      simp only [codeLB] at h
      have : memN p ps = false := by rw [hps, hE]; rfl
      rw [this, Bool.false_or] at h
      simp only [Bool.and_eq_true, Bool.or_eq_true, Bool.not_eq_true', List.all_eq_true] at h
      obtain ⟨⟨h1, h2⟩, h3⟩ := h
      refine ⟨⟨h1, fun hd => ?_⟩, fun o ho d hd hin => ?_⟩
      · rcases h2 with h2 | h2
        · rw [hd] at h2; cases h2
        · exact draw_ok hcf (drawB_ok hm h2)
      · have := h3 o ho
        rw [hd] at this
        simp only [Bool.not_eq_true'] at this
        rw [(memN_iff d ks).2 hin] at this
        cases this
  | .seq x y, p, h, hr => by
    simp only [codeLB, Bool.and_eq_true] at h
    exact ⟨codeLB_ok hcf hm hps x _ h.1 fun z hz => hr z (by simp [regAt, hz]), codeLB_ok hcf hm hps y _ h.2 fun z hz => hr z (by simp [regAt, hz])⟩
  | .cond c x y, p, h, hr => by
    simp only [codeLB, Bool.and_eq_true] at h
    exact ⟨h.1, codeLB_ok hcf hm hps x _ h.2.1 fun z hz => hr z (by simp [regAt, hz]), codeLB_ok hcf hm hps y _ h.2.2 fun z hz => hr z (by simp [regAt, hz])⟩
  | .skip, p, h, hr => ⟨trivial, trivial⟩
  | .label _, p, h, hr => ⟨trivial, trivial⟩
  | .ret, p, h, hr => ⟨trivial, trivial⟩
  | .exit _, p, h, hr => ⟨trivial, trivial⟩
  | .goto _, p, h, hr => by simp [codeLB] at h
  | .block _ _, p, h, hr => by simp [codeLB] at h
  | .scope _, p, h, hr => by simp [codeLB] at h
  | .loop _, p, h, hr => by simp [codeLB] at h
  | .rangeFunc .., p, h, hr => by simp [codeLB] at h
  | .refuse _, p, h, hr => by simp [codeLB] at h
def funLB (P : Program) (g : Nat) (ps ks : List Nat) : Bool :=
  match P.funcs[g]? with
  | some fn => match fn.body with
    | some c => codeLB P fn.ntmps ps ks c 1 && (resB fn.ntmps fn.results.toList && distinctB fn.results.toList fn.results.toList 0)
    | none => false
  | none => false
def funRegs (P : Program) (g : Nat) : List (Nat × Nat × Array Oper × Bool) :=
  match P.funcs[g]? with
  | some fn => match fn.body with
    | some c => regAt c 1
    | none => []
  | none => []
def EstOK (P : Program) (A : AbsR) (g : Nat) (ks : List Nat) (fr0 : Fr) (c : Code) (E : Fr → Stack → Wr → Kont → Option Res) : Prop :=
  ∀ e0 a0 w0, WOK e0 w0 → (∀ l i, rhoAt e0.rho l i = none) → FRel (ntm P g) e0 fr0 a0 → BodyL (fun t => t ∈ ks) P (ntm P g) A e0 a0 w0 c E
theorem law_callsL (hcf : CfOK P A cf) (hm : P.follows .mixedOrders = true) {lf : Nat → Option LoopSum} {est : Est} {g : Nat} {ps ks : List Nat} {args : List AV} (hb : funLB P g ps ks = true) (hps : ∀ p, memN p ps = (est p).isSome)
    (hE : ∀ x ∈ funRegs P g, ∀ E, est x.1 = some E → EstOK P A g ks (nthD (up.ups args)) (.region x.2.1 x.2.2.1 x.2.2.2) (E x.2.2.1.toList)) (h : bodyL P cf cfg lf est g args = some (.bool true, [], []))
    (w : World) (vs : Array Value) (ha : ArgsP w args vs.toList) : Calls P g vs w fun e w' => e = .returned (.bool true) ∧ Below w.heap.size w w' := by
  unfold funLB at hb
  unfold funRegs at hE
  unfold bodyL at h
  cases hf : P.funcs[g]? with
  | none => rw [hf] at hb; cases hb
  | some fn =>
    have hntm : ntm P g = fn.ntmps := by unfold ntm; rw [hf]
    rw [hf] at hb hE h
    simp only at h hE
    cases hbd : fn.body with
    | none => simp only [hbd] at hb; cases hb
    | some c =>
      simp only [hbd, Bool.and_eq_true] at hb hE h
      obtain ⟨hN, h⟩ := cond_none h
      have hN' : args.length ≤ fn.ntmps := by rw [← lenN_eq]; exact (ble_iff _ _).1 hN
      have hcr := enter_cr (A := A) (envOf_ok w) (envOf_hr w) ⟨ha.get.1, fun i x v hx hv => ha.get.2 i x v hx hv _ _⟩ hN'
      have hr0 : ∀ l i, rhoAt (envOf w).enter.rho l i = none := by
        intro l i
        match l with
        | 0 => rfl
        | l + 1 => rfl
      obtain ⟨ex, fr1, H1, wr1, h1, h3⟩ := codeL_sim hcf c 1 (codeLB_ok (n := fn.ntmps) (A := A) (e0 := (envOf w).enter) (a0 := args0 fn.ntmps vs) (w0 := w) hcf hm hps c 1 hb.1 fun x hx E hxE => by
        have := hE x hx E hxE (envOf w).enter (args0 fn.ntmps vs) w hcr.wok hr0 (by rw [hntm]; exact hcr.fr)
        rwa [hntm] at this) _ _ _ _ _ h
      refine callsIn_wide.1 (callsIn_of_wp_marks (F := Fence.wide) (n := 0) hf hbd trivial (wpIn_wide.2 (wp_mono (h3 _ _ w hcr ⟨rfl, rfl, rfl, Nat.le_refl _, fun b hb => ⟨rfl, rfl, fun _ => rfl⟩⟩ (Kept.refl _ _ _ _ _)) fun x a' w' hq => ?_)))
      obtain ⟨hx, e1, g1, g2, g3⟩ := hq
      have hfin : ∀ w', CR fn.ntmps A e1 fr1 H1 a' w' → GL (envOf w).enter w e1 w' → ∀ r, (match resVals P fr1 H1 fn.results.toList with | some vs => some (strip (resOf vs), ([] : Wr), ([] : Stack)) | none => none) = some r → r = (.bool true, [], []) → ∃ v, (results fn a'.tmps).run P w' = .ok v w' ∧ ((Ending.returned v = .returned (.bool true)) ∧ Below w.heap.size w w') := by
        intro w' g1 g2 r hr hrr
        subst hrr
        cases hv : resVals P fr1 H1 fn.results.toList with
        | none => rw [hv] at hr; cases hr
        | some rs =>
          rw [hv] at hr
          simp only [Option.some.injEq, Prod.mk.injEq, and_true] at hr
          obtain ⟨us, k1, k2, k2', k3⟩ := resVals_sim g1 fn.results.toList rs hb.2.1 hv
          refine ⟨_, results_run k1, ?_, ⟨g2.os, g2.tape, g2.output, g2.size, fun k hk => (g2.blk k hk).1⟩⟩
          have hvr := VR.strip _ _ (some (.io 0 0)) _ (some fun j => .io 0 (j + 1)) _ (resOf_sim (e := e1) (base := 0) hb.2.2 k2 k2' k3)
          rw [hr] at hvr
          simp only [VR] at hvr
          rw [hvr]
      obtain ⟨ms, d1, d2, d3⟩ := g3.marks
      have hdef : a'.defers = ms.map markD := by rw [d1]; simp [args0]
      have hl : ∀ r, (match resVals P fr1 H1 fn.results.toList with | some vs => some (strip (resOf vs), ([] : Wr), ([] : Stack)) | none => none) = some r → r = (.bool true, [], []) → LeavesInM Fence.wide 0 P fn a'.tmps (fun e w' => e = .returned (.bool true) ∧ Below w.heap.size w w') (ms.map markD) .returning w' := fun r hr hrr =>
        leaves_marks (P := P) (fn := fn) (m0 := w.heap.size) (G := fun w'' => GL (envOf w).enter w e1 w'') (fun w'' D o hG hD => hG.put hD) (fun w'' hC hG => hfin w'' hC hG r hr hrr) ms w' g1 g2 d2 d3
      cases ex with
      | exit i => cases h1
      | normal =>
        cases x <;> simp only [exMatch] at hx
        show LeavesInM _ _ _ _ _ _ _ _ _
        rw [hdef]; exact hl _ h1 rfl
      | ret =>
        cases x <;> simp only [exMatch] at hx
        show LeavesInM _ _ _ _ _ _ _ _ _
        rw [hdef]; exact hl _ h1 rfl
structure StoreAt where
  p : Nat
  xt : Nat
  et : Nat
  q : Nat
  tS : Nat
  tI : Nat
  tV : Nat
  tP : Nat
def estL (P : Program) (cf : CallK) (cfg : Cfg) (g : Nat) (fr0 : Fr) (ks : List Nat) : List StoreAt → Est
  | [], _ => none
  | x :: r, p => bif Nat.beq p x.p then some (estAt P cf cfg (ntm P g) fr0 ks x.q x.tS x.tI x.tV x.tP) else estL P cf cfg g fr0 ks r p
end Go.Vm
/- Ranges over functions: rounds, and what runs them. -/
set_option linter.unusedVariables false
set_option linter.unusedSimpArgs false
namespace Go.Vm
open Go.RowKit
variable {K : Nat → Prop} {P : Program} {n : Nat} {A : AbsR} {e e0 : Env} {s : RS} {a a0 : Act} {w w0 : World} {o : Oper} {cf : CallK} {cfg : Cfg}
def FPost (K : Nat → Prop) (n : Nat) (A : AbsR) (e : Env) (a : Act) (w : World) (ex : Ex) (fr : Fr) (H : Stack) (wr : Wr) (x : Exit) (a' : Act) (w' : World) : Prop :=
  exMatch ex x ∧ ∃ e', CR n A e' fr H a' w' ∧ Grow e w e' w' wr ∧ RhoLe e e' ∧ Keep K a a'
theorem FPost.trans {e1 : Env} {a1 a2 : Act} {w1 w2 : World} {ex : Ex} {fr : Fr} {H : Stack} {wr wr1 : Wr} {x : Exit} (hg : Grow e w e1 w1 wr1) (hr : RhoLe e e1) (hd : Keep K a a1) (hw : WLe wr1 wr) (h : FPost K n A e1 a1 w1 ex fr H wr x a2 w2) : FPost K n A e a w ex fr H wr x a2 w2 := by
  obtain ⟨h1, e2, h2, h3, h4, h5⟩ := h
  exact ⟨h1, e2, h2, hg.trans h3 hr hw, fun l i b hb => h4 l i b (hr l i b hb), h5.trans hd⟩
def isMem : Obj → Bool
  | .cells .. => true
  | .map .. => true
  | _ => false
theorem HB.mem {x : Ob} {q : Option Obj} {c : Array Value} {ty : TypeId} {fz : Nat × Nat} (k : HB q c ty fz x) : ∃ o, q = Option.some o ∧ isMem o = true := by
  cases x with
  | map _ => obtain ⟨_, es, clk, k, _⟩ := k; exact ⟨_, k, rfl⟩
  | cells _ => exact ⟨_, k, rfl⟩
  | abs _ _ => exact ⟨_, k, rfl⟩
theorem FB.mem {q : Option Obj} {p : Pl} {c : Array Value} {ty : TypeId} {lo hi : Nat} (k : FB q p c ty lo hi) : ∃ o, q = Option.some o ∧ isMem o = true := by
  rcases k with ⟨k, _⟩ | ⟨_, _, es, clk, k⟩ <;> exact ⟨_, k, rfl⟩
def Rec := LoopState → Option Code → Loop
structure Mid (A : AbsR) (e0 : Env) (w0 : World) (l D : Nat) (rl : Loop) (H : Stack) (wr : Wr) (e : Env) (W : World) : Prop where
  wok : WOK e W
  hr : HR A e H W
  lp : W.heap[l]? = some (.loop rl)
  df : W.heap[D]? = some (.deferred (some []))
  nl : e.own l = none
  nd : e.own D = none
  gr : Grow1 e0 w0 e W wr
  rho : RhoLe e0 e
theorem Mid.grow {l D : Nat} {rl : Loop} {H H' : Stack} {wr wr' : Wr} {e' : Env} {W W' : World} (h : Mid A e0 w0 l D rl H wr e W) (hw : WOK e' W') (hH : HR A e' H' W') (g : Grow e W e' W' wr') (r : RhoLe e e') (hwr : WLe wr wr') : Mid A e0 w0 l D rl H' wr' e' W' := by
  have l1 := (Array.getElem?_eq_some_iff.1 h.lp).1
  have l2 := (Array.getElem?_eq_some_iff.1 h.df).1
  obtain ⟨g1, g2, _⟩ := g.stay l l1 (.inl h.nl)
  obtain ⟨g3, g4, _⟩ := g.stay D l2 (.inl h.nd)
  exact ⟨hw, hH, g1.trans h.lp, g3.trans h.df, g2.trans h.nl, g4.trans h.nd, h.gr.trans g.one (fun l i b hb => h.rho _ _ _ hb) hwr, fun l i b hb => r _ _ _ (h.rho _ _ _ hb)⟩
def goes (rec : Rec) (go : Bool) : Loop := bif go then rec .ready none else rec .done (some .ret)
end Go.Vm
/- Functions that range over functions: their checks, their contracts. -/
set_option linter.unusedVariables false
set_option linter.unusedSimpArgs false
namespace Go.Vm
variable {K : Nat → Prop} {P : Program} {n : Nat} {A : AbsR} {cf : CallK} {cfg : Cfg}
end Go.Vm
/- Within an iterator: operations by hand, a call of yield. -/
set_option linter.unusedVariables false
set_option linter.unusedSimpArgs false
namespace Go.Vm
open Go.RowKit
variable {K : Nat → Prop} {P : Program} {n : Nat} {A : AbsR} {e e0 : Env} {s : RS} {a a0 : Act} {w w0 : World} {o : Oper} {cf : CallK} {cfg : Cfg}
def bodyC (P : Program) (g : Nat) : Code := match P.funcs[g]? with | some fn => (match fn.body with | some c => c | none => .skip) | none => .skip
def rs0 (fr : Fr) (H : Stack) : RS := { fr, als := noAls, H, wr := [], lds := noLds }
theorem Mid.same {l D : Nat} {rl : Loop} {H : Stack} {wr wr' : Wr} {e' : Env} {W W' : World} (h : Mid A e0 w0 l D rl H wr e W) (hw : WOK e' W') (hH : HR A e' H W') (g : Grow e W e' W' wr') (r : RhoLe e e') (hwr : WLe wr' wr) : Mid A e0 w0 l D rl H wr e' W' :=
  h.grow hw hH (g.weaken fun l i hm => hwr l i hm) r (WLe.refl _)
theorem RR.of {fr : Fr} {H : Stack} (h1 : WOK e w) (h2 : HR A e H w) (h3 : FRel n e fr a) : RR n A e (rs0 fr H) a w := ⟨h1, h2, h3, fun t src _ hs => by simp [rs0, noAls] at hs⟩
theorem WLe.nil (wr : Wr) : WLe [] wr := fun _ _ _ => rfl
end Go.Vm
/- Several objects: a contract that is shown where there is nothing else holds wherever they lie, on one level. -/
set_option linter.unusedVariables false
set_option linter.unusedSimpArgs false
set_option linter.unusedSectionVars false
namespace Go.Vm
open Go.RowKit (Below)
variable {P : Program} {cf : CallK} {cfg : Cfg} {A : AbsR} {e : Env} {w : World}
def mvA (f : Nat → Nat → Nat × Nat) : AV → AV
  | .ptr l i o => .ptr (f l i).1 (f l i).2 o
  | .func g a c => .func g (mvAs f a) (mvAs f c)
  | .agg cs => .agg (mvAs f cs)
  | .tuple vs => .tuple (mvAs f vs)
  | .cptr cs o => .cptr (mvAs f cs) o
  | v => v
where mvAs (f : Nat → Nat → Nat × Nat) : List AV → List AV
  | [] => []
  | v :: r => mvA f v :: mvAs f r
def ptrsIn (p : Nat → Nat → Bool) : AV → Bool
  | .ptr l i _ => p l i
  | .func _ a c => ptrsInS p a && ptrsInS p c
  | .agg cs => ptrsInS p cs
  | .tuple vs => ptrsInS p vs
  | .cptr cs _ => ptrsInS p cs
  | _ => true
where ptrsInS (p : Nat → Nat → Bool) : List AV → Bool
  | [] => true
  | v :: r => ptrsIn p v && ptrsInS p r
section
variable {e' : Env} {f : Nat → Nat → Nat × Nat} {p : Nat → Nat → Bool} (hc : e'.cl = e.cl) (ho : e'.own = e.own)
include hc ho
mutual
theorem VR.mv (hr : ∀ l i b, p l i = true → rhoAt e.rho l i = some b → rhoAt e'.rho (f l i).1 (f l i).2 = some b) : ∀ (a : AV) (pp : Option Pl) (q : Option (Nat → Pl)) (v : Value), ptrsIn p a = true → VR e pp q a v → VR e' pp q (mvA f a) v
  | .undef, _, _, _, _, _ => by simp [mvA, VR]
  | .bool b, _, _, _, _, h => by simpa [mvA, VR] using h
  | .int k n, _, _, _, _, h => by simpa [mvA, VR] using h
  | .str s, _, _, _, _, h => by simpa [mvA, VR] using h
  | .slice T xs lv, pp, q, v, _, h => by simpa only [mvA] using VR.noPtr hc ho (.slice T xs lv) pp q v rfl h
  | .ptr l i o, _, _, _, hn, h => by
    simp only [mvA, VR] at h ⊢; obtain ⟨b, h1, h2⟩ := h; exact ⟨b, hr l i b hn h1, h2⟩
  | .nilp, _, _, _, _, h => by simpa [mvA, VR] using h
  | .cptr cs o, _, _, _, hn, h => by
    simp only [mvA, VR] at h ⊢; obtain ⟨b, off, h1, h2⟩ := h; exact ⟨b, off, h1, CRs.mv hr cs b off hn h2⟩
  | .func g a c, _, _, _, hn, h => by
    simp only [ptrsIn, Bool.and_eq_true] at hn
    simp only [mvA, VR] at h ⊢; obtain ⟨va, vc, h1, h2, h3⟩ := h
    exact ⟨va, vc, h1, VRs.mv hr a none 0 _ hn.1 h2, VRs.mv hr c none 0 _ hn.2 h3⟩
  | .nilf, _, _, _, _, h => by simpa [mvA, VR] using h
  | .agg cs, _, q, _, hn, h => by
    simp only [mvA, VR] at h ⊢; obtain ⟨a, h1, h2⟩ := h; exact ⟨a, h1, VRs.mv hr cs q 0 _ hn h2⟩
  | .tuple cs, _, q, _, hn, h => by
    simp only [mvA, VR] at h ⊢; obtain ⟨a, h1, h2⟩ := h; exact ⟨a, h1, VRs.mv hr cs q 0 _ hn h2⟩
theorem VRs.mv (hr : ∀ l i b, p l i = true → rhoAt e.rho l i = some b → rhoAt e'.rho (f l i).1 (f l i).2 = some b) : ∀ (as : List AV) (q : Option (Nat → Pl)) (j : Nat) (vs : List Value), ptrsIn.ptrsInS p as = true → VRs e q j as vs → VRs e' q j (mvA.mvAs f as) vs
  | [], _, _, _, _, h => by rw [VRs.nil] at h; simp [mvA.mvAs, VRs.nil, h]
  | a :: r, q, j, vs, hn, h => by
    simp only [ptrsIn.ptrsInS, Bool.and_eq_true] at hn
    rw [VRs.cons] at h; simp only [mvA.mvAs]; rw [VRs.cons]
    obtain ⟨v, s, e1, h1, h2⟩ := h
    exact ⟨v, s, e1, VR.mv hr a _ none v hn.1 h1, VRs.mv hr r q (j + 1) s hn.2 h2⟩
theorem CRs.mv (hr : ∀ l i b, p l i = true → rhoAt e.rho l i = some b → rhoAt e'.rho (f l i).1 (f l i).2 = some b) : ∀ (cs : List AV) (b off : Nat), ptrsIn.ptrsInS p cs = true → CRs e b off cs → CRs e' b off (mvA.mvAs f cs)
  | [], _, _, _, _ => by simp [mvA.mvAs, CRs]
  | a :: r, b, off, hn, h => by
    simp only [ptrsIn.ptrsInS, Bool.and_eq_true] at hn
    simp only [mvA.mvAs, CRs] at h ⊢
    obtain ⟨⟨u, h1, h2⟩, h3⟩ := h
    exact ⟨⟨u, by rw [hc]; exact h1, VR.mv hr a none none u hn.1 h2⟩, CRs.mv hr r b (off + 1) hn.2 h3⟩
end
mutual
theorem VR.unmv (hr : ∀ l i b, p l i = true → rhoAt e.rho (f l i).1 (f l i).2 = some b → rhoAt e'.rho l i = some b) : ∀ (a : AV) (pp : Option Pl) (q : Option (Nat → Pl)) (v : Value), ptrsIn p a = true → VR e pp q (mvA f a) v → VR e' pp q a v
  | .undef, _, _, _, _, _ => by simp [VR]
  | .bool b, _, _, _, _, h => by simpa [mvA, VR] using h
  | .int k n, _, _, _, _, h => by simpa [mvA, VR] using h
  | .str s, _, _, _, _, h => by simpa [mvA, VR] using h
  | .slice T xs lv, pp, q, v, _, h => VR.noPtr hc ho (.slice T xs lv) pp q v rfl (by simpa only [mvA] using h)
  | .ptr l i o, _, _, _, hn, h => by
    simp only [mvA, VR] at h ⊢; obtain ⟨b, h1, h2⟩ := h; exact ⟨b, hr l i b hn h1, h2⟩
  | .nilp, _, _, _, _, h => by simpa [mvA, VR] using h
  | .cptr cs o, _, _, _, hn, h => by
    simp only [mvA, VR] at h ⊢; obtain ⟨b, off, h1, h2⟩ := h; exact ⟨b, off, h1, CRs.unmv hr cs b off hn h2⟩
  | .func g a c, _, _, _, hn, h => by
    simp only [ptrsIn, Bool.and_eq_true] at hn
    simp only [mvA, VR] at h ⊢; obtain ⟨va, vc, h1, h2, h3⟩ := h
    exact ⟨va, vc, h1, VRs.unmv hr a none 0 _ hn.1 h2, VRs.unmv hr c none 0 _ hn.2 h3⟩
  | .nilf, _, _, _, _, h => by simpa [mvA, VR] using h
  | .agg cs, _, q, _, hn, h => by
    simp only [mvA, VR] at h ⊢; obtain ⟨a, h1, h2⟩ := h; exact ⟨a, h1, VRs.unmv hr cs q 0 _ hn h2⟩
  | .tuple cs, _, q, _, hn, h => by
    simp only [mvA, VR] at h ⊢; obtain ⟨a, h1, h2⟩ := h; exact ⟨a, h1, VRs.unmv hr cs q 0 _ hn h2⟩
theorem VRs.unmv (hr : ∀ l i b, p l i = true → rhoAt e.rho (f l i).1 (f l i).2 = some b → rhoAt e'.rho l i = some b) : ∀ (as : List AV) (q : Option (Nat → Pl)) (j : Nat) (vs : List Value), ptrsIn.ptrsInS p as = true → VRs e q j (mvA.mvAs f as) vs → VRs e' q j as vs
  | [], _, _, _, _, h => by simp only [mvA.mvAs] at h; rw [VRs.nil] at h ⊢; exact h
  | a :: r, q, j, vs, hn, h => by
    simp only [ptrsIn.ptrsInS, Bool.and_eq_true] at hn
    simp only [mvA.mvAs] at h; rw [VRs.cons] at h ⊢
    obtain ⟨v, s, e1, h1, h2⟩ := h
    exact ⟨v, s, e1, VR.unmv hr a _ none v hn.1 h1, VRs.unmv hr r q (j + 1) s hn.2 h2⟩
theorem CRs.unmv (hr : ∀ l i b, p l i = true → rhoAt e.rho (f l i).1 (f l i).2 = some b → rhoAt e'.rho l i = some b) : ∀ (cs : List AV) (b off : Nat), ptrsIn.ptrsInS p cs = true → CRs e b off (mvA.mvAs f cs) → CRs e' b off cs
  | [], _, _, _, _ => by simp [CRs]
  | a :: r, b, off, hn, h => by
    simp only [ptrsIn.ptrsInS, Bool.and_eq_true] at hn
    simp only [mvA.mvAs, CRs] at h ⊢
    obtain ⟨⟨u, h1, h2⟩, h3⟩ := h
    exact ⟨⟨u, by rw [hc]; exact h1, VR.unmv hr a none none u hn.1 h2⟩, CRs.unmv hr r b (off + 1) hn.2 h3⟩
end
end
def pos : List (Nat × Nat) → Nat × Nat → Option Nat
  | [], _ => none
  | t :: r, i => if i = t then some 0 else (pos r i).map (· + 1)
def at0 (τ : List (Nat × Nat)) (j : Nat) : Nat × Nat := match nth τ j with | some t => t | none => (0, 0)
def lonN (τ : List (Nat × Nat)) : Pl → Pl
  | .ob l' i' => match pos τ (l', i') with | some j => .ob 1 j | none => .hid (.ob l' i')
  | .cell l' i' o => match pos τ (l', i') with | some j => .cell 1 j o | none => .hid (.cell l' i' o)
  | .io a b => .io a b
  | p => .hid p
def outN (τ : List (Nat × Nat)) : Pl → Pl
  | .ob 1 j => .ob (at0 τ j).1 (at0 τ j).2
  | .cell 1 j o => .cell (at0 τ j).1 (at0 τ j).2 o
  | .hid p => p
  | .io a b => .io a b
  | p => .hid p
instance (τ : List (Nat × Nat)) : ObF (lonN τ) := ⟨fun p => by
  unfold lonN
  repeat' split
  all_goals rfl⟩
instance (τ : List (Nat × Nat)) : ObF (outN τ) := ⟨fun p => by
  unfold outN
  repeat' split
  all_goals rfl⟩
end Go.Vm
/- Rights made less; methods of an object that has another one. -/
set_option linter.unusedVariables false
set_option linter.unusedSimpArgs false
namespace Go.Vm
variable {P : Program} {cf : CallK} {cfg : Cfg} {A : AbsR} {e : Env} {w : World}
def lvLe : Lv → Lv → Bool
  | _, .view => true
  | .full, .own => true
  | .mine, .own => true
  | .nilv, .own => true
  | .nilv, .full => true
  | .full, .full => true
  | .own, .own => true
  | .mine, .mine => true
  | .nn, .nn => true
  | .nilv, .nilv => true
  | _, _ => false
theorem LvR.le {p : Option Pl} {k : Nat} {v : Value} {a b : Lv} (hab : lvLe a b = true) (h : LvR e p k v a) : LvR e p k v b := by
  cases b with
  | view => trivial
  | full =>
    cases a with
    | full => exact h
    | nilv => exact ⟨none, 0, h⟩
    | _ => cases hab
  | own =>
    cases a with
    | full => exact .inl h
    | nilv => exact .inl ⟨none, 0, h⟩
    | own => exact h
    | mine => exact .inr h
    | _ => cases hab
  | mine => cases a <;> first | exact h | cases hab
  | nn => cases a <;> first | exact h | cases hab
  | nilv => cases a <;> first | exact h | cases hab
inductive AvLe : AV → AV → Prop
  | refl (a : AV) : AvLe a a
  | sl (T : Ty) (xs : List T.interp) (a b : Lv) (h : lvLe a b = true) : AvLe (.slice T xs a) (.slice T xs b)
theorem VR.le {p : Option Pl} {q : Option (Nat → Pl)} {a b : AV} {v : Value} (h : AvLe a b) (hv : VR e p q a v) : VR e p q b v := by
  cases h with
  | refl => exact hv
  | sl T xs a b h =>
    simp only [VR] at hv ⊢
    exact ⟨hv.1, hv.2.le h⟩
def CsLe : List AV → List AV → Prop
  | [], [] => True
  | a :: r, b :: s => AvLe a b ∧ CsLe r s
  | _, _ => False
theorem CsLe.get : ∀ {cs ds : List AV}, CsLe cs ds → cs.length = ds.length ∧ ∀ (o : Nat) (b : AV), ds[o]? = some b → ∃ a, cs[o]? = some a ∧ AvLe a b
  | [], [], _ => ⟨rfl, fun o b h => by simp at h⟩
  | a :: r, b :: s, h => by
    obtain ⟨h1, h2⟩ := h
    obtain ⟨h3, h4⟩ := CsLe.get h2
    refine ⟨by simp [h3], fun o b' hb => ?_⟩
    cases o with
    | zero => simp at hb; subst hb; exact ⟨a, rfl, h1⟩
    | succ o => simpa using h4 o b' (by simpa using hb)
  | [], _ :: _, h => h.elim
  | _ :: _, [], h => h.elim
theorem HR.le {S : Stack} {l i : Nat} {cs cs' : List AV} (hH : HR A e S w) (hg : getH S l i = some (.cells cs)) (hle : CsLe cs cs') : HR A e (setH S l i (.cells cs')) w := by
  refine ⟨hH.par.setH _ _ _, fun l' i' y hy => ?_⟩
  by_cases hne : l' = l ∧ i' = i
  · obtain ⟨rfl, rfl⟩ := hne
    rw [getH_setH_same _ _ _ _ _ hg] at hy
    cases hy
    obtain ⟨b, hb, c, ty, fz, h1, h2, h3, h4, h5⟩ := hH.ob l' i' (.cells cs) hg
    obtain ⟨k1, k2⟩ := hle.get
    refine ⟨b, hb, c, ty, fz, h1, h2, h3, ?_, fun o av u ha hu => ?_⟩
    · rw [← k1]; exact h4
    · obtain ⟨a, q1, q2⟩ := k2 o av ha
      exact VR.le q2 (h5 o a u q1 hu)
  · rw [getH_setH_ne _ _ _ _ _ _ (by by_cases hl : l' = l; exact .inr fun hi => hne ⟨hl, hi⟩; exact .inl hl)] at hy
    exact hH.ob l' i' y hy
theorem SimCall.weak {g : FuncId} {args : List AV} {S S1 : Stack} {v : AV} {wr : Wr} {l i : Nat} {cs cs' : List AV} (h : SimCall P A g args S (v, wr, S1)) (hg : getH S1 l i = some (.cells cs)) (hle : CsLe cs cs') : SimCall P A g args S (v, wr, setH S1 l i (.cells cs')) := by
  intro e vs w h1 h2 h3
  exact (h e vs w h1 h2 h3).mono fun val w' ⟨e', k1, k2, k3, k4, k5⟩ => ⟨e', k1, k2.le hg hle, k3, k4, k5⟩
mutual
theorem mvA_noPtr (f : Nat → Nat → Nat × Nat) : ∀ (a : AV), noPtr a = true → mvA f a = a
  | .undef, _ => rfl
  | .bool _, _ => rfl
  | .int _ _, _ => rfl
  | .str _, _ => rfl
  | .slice _ _ _, _ => rfl
  | .ptr _ _ _, h => by simp [noPtr] at h
  | .nilp, _ => rfl
  | .cptr cs o, h => by simp only [noPtr] at h; simp only [mvA, mvAs_noPtr f cs h]
  | .func g a c, h => by simp only [noPtr, Bool.and_eq_true] at h; simp only [mvA, mvAs_noPtr f a h.1, mvAs_noPtr f c h.2]
  | .nilf, _ => rfl
  | .agg cs, h => by simp only [noPtr] at h; simp only [mvA, mvAs_noPtr f cs h]
  | .tuple cs, h => by simp only [noPtr] at h; simp only [mvA, mvAs_noPtr f cs h]
theorem mvAs_noPtr (f : Nat → Nat → Nat × Nat) : ∀ (l : List AV), noPtr.noPtrs l = true → mvA.mvAs f l = l
  | [], _ => rfl
  | a :: r, h => by
    simp only [noPtr.noPtrs, Bool.and_eq_true] at h
    simp only [mvA.mvAs, mvA_noPtr f a h.1, mvAs_noPtr f r h.2]
end
mutual
theorem ptrsIn_noPtr (p : Nat → Nat → Bool) : ∀ (a : AV), noPtr a = true → ptrsIn p a = true
  | .undef, _ => rfl
  | .bool _, _ => rfl
  | .int _ _, _ => rfl
  | .str _, _ => rfl
  | .slice _ _ _, _ => rfl
  | .ptr _ _ _, h => by simp [noPtr] at h
  | .nilp, _ => rfl
  | .cptr cs o, h => by simp only [noPtr] at h; simp only [ptrsIn, ptrsInS_noPtr p cs h]
  | .func g a c, h => by simp only [noPtr, Bool.and_eq_true] at h; simp only [ptrsIn, ptrsInS_noPtr p a h.1, ptrsInS_noPtr p c h.2, Bool.and_self]
  | .nilf, _ => rfl
  | .agg cs, h => by simp only [noPtr] at h; simp only [ptrsIn, ptrsInS_noPtr p cs h]
  | .tuple cs, h => by simp only [noPtr] at h; simp only [ptrsIn, ptrsInS_noPtr p cs h]
theorem ptrsInS_noPtr (p : Nat → Nat → Bool) : ∀ (l : List AV), noPtr.noPtrs l = true → ptrsIn.ptrsInS p l = true
  | [], _ => rfl
  | a :: r, h => by
    simp only [noPtr.noPtrs, Bool.and_eq_true] at h
    simp only [ptrsIn.ptrsInS, ptrsIn_noPtr p a h.1, ptrsInS_noPtr p r h.2, Bool.and_self]
end
def wr2 (l i l2 j : Nat) (w0 w1 : Bool) : Wr := bif w0 then (l, i) :: (bif w1 then [(l2, j)] else []) else bif w1 then [(l2, j)] else []
mutual
theorem ptrsIn_mono {p q : Nat → Nat → Bool} (h : ∀ a j, p a j = true → q a j = true) : ∀ (a : AV), ptrsIn p a = true → ptrsIn q a = true
  | .undef, _ => rfl
  | .bool _, _ => rfl
  | .int _ _, _ => rfl
  | .str _, _ => rfl
  | .slice _ _ _, _ => rfl
  | .ptr _ _ _, hp => h _ _ hp
  | .nilp, _ => rfl
  | .cptr cs o, hp => by simp only [ptrsIn] at hp ⊢; exact ptrsInS_mono h cs hp
  | .func g a c, hp => by simp only [ptrsIn, Bool.and_eq_true] at hp ⊢; exact ⟨ptrsInS_mono h a hp.1, ptrsInS_mono h c hp.2⟩
  | .nilf, _ => rfl
  | .agg cs, hp => by simp only [ptrsIn] at hp ⊢; exact ptrsInS_mono h cs hp
  | .tuple cs, hp => by simp only [ptrsIn] at hp ⊢; exact ptrsInS_mono h cs hp
theorem ptrsInS_mono {p q : Nat → Nat → Bool} (h : ∀ a j, p a j = true → q a j = true) : ∀ (l : List AV), ptrsIn.ptrsInS p l = true → ptrsIn.ptrsInS q l = true
  | [], _ => rfl
  | a :: r, hp => by
    simp only [ptrsIn.ptrsInS, Bool.and_eq_true] at hp ⊢
    exact ⟨ptrsIn_mono h a hp.1, ptrsInS_mono h r hp.2⟩
end
end Go.Vm
/- Laws that store an element of a row of bytes of their own, in regions of drawn order. -/
set_option linter.unusedVariables false
set_option linter.unusedSimpArgs false
namespace Go.Vm
open Go.RowKit (Below)
variable {K : Nat → Prop} {P : Program} {n : Nat} {A : AbsR} {e e0 : Env} {s : RS} {a a0 : Act} {w w0 : World} {o : Oper} {cf : CallK} {cfg : Cfg}
theorem steps_simL {K : Nat → Prop} {dr : Bool} {ops : Array Oper} (hcf : CfOK P A cf) (hb : opsB n ops.toList = true) : ∀ (l : List Nat) (e : Env) (s : RS) (a : Act) (w : World) (s' : RS), (∀ i ∈ l, ∀ o, ops.toList[i]? = some o → ∀ d, o.dst = some d → ¬ K d) → RR n A e s a w → steps P cf cfg dr ops.toList l s = some s' →
    ∀ Q : Exit → Act → World → Prop, (∀ a' w', Post K n A e a w s' a' w' → Q .normal a' w') → wpOps P ops Q l a w
  | [], e, s, a, w, s', hK, h, hs, Q, hQ => by
    simp only [steps, Option.some.injEq] at hs
    subst hs
    exact hQ a w ⟨e, h, Grow.refl _ _ _, fun _ _ _ h => h, Keep.refl _ _⟩
  | i :: r, e, s, a, w, s', hK, h, hs, Q, hQ => by
    have hK' : ∀ i ∈ r, ∀ o, ops.toList[i]? = some o → ∀ d, o.dst = some d → ¬ K d := fun j hj => hK j (List.mem_cons_of_mem _ hj)
    simp only [steps] at hs
    simp only [wpOps]
    have hget : ops[i]? = ops.toList[i]? := by simp
    rw [hget]
    cases ho : ops.toList[i]? with
    | none => rw [ho] at hs; exact steps_simL hcf hb r e s a w s' hK' h hs Q hQ
    | some o =>
      have hKo := hK i (by simp) o ho
      rw [ho] at hs
      simp only at hs ⊢
      cases h1 : step1 P cf cfg dr ops.toList o s with
      | none => rw [h1] at hs; cases hs
      | some s1 =>
        rw [h1] at hs
        simp only at hs
        have hob := opsB_get hb ho
        have hwr := steps_wr r s1 s' hs
        unfold step1 at h1
        split at h1
        · rename_i hw
          rw [if_pos (wanted_sim h hb hw)]
          left
          split at h1
          · rename_i s2 v l hr
            cases h1
            refine run1_after hcf h hob.1 hr _ Q fun e' w' u g1 g2 g3 g4 g5 => ?_
            obtain ⟨e2, k1, k2, k3⟩ := g1.putOp (o := o) hob.2 g2 g3
            refine steps_simL hcf hb r e2 _ _ w' s' hK' k1 hs Q fun a' w'' hP => hQ a' w'' ?_
            obtain ⟨e3, m1, m2, m3, m4⟩ := hP
            have hw2 : WrLe s2 s' := fun x i hx => by have := hwr x i hx; rwa [put_wr] at this
            exact ⟨e3, m1, ((g4.trans k2 g5 (fun _ _ h => h)).trans m2 (fun x i b hb => k3 _ _ _ (g5 _ _ _ hb)) hw2), fun x i b hb => m3 _ _ _ (k3 _ _ _ (g5 _ _ _ hb)), m4.trans (Keep.put _ _ hKo)⟩
          · cases h1
        · rename_i hw
          rw [if_neg (by rw [wanted_sim h hb hw]; simp)]
          cases h1
          obtain ⟨e2, k1, k2, k3⟩ := h.putOp (o := o) (v := .tuple []) (u := undef) (l := none) hob.2 (by simp only [VR]; exact ⟨#[], rfl, by simp [VRs]⟩) (by simp)
          refine steps_simL hcf hb r e2 _ _ w s' hK' k1 hs Q fun a' w'' hP => hQ a' w'' ?_
          obtain ⟨e3, m1, m2, m3, m4⟩ := hP
          have hw2 : WrLe s s' := fun x i hx => by have := hwr x i hx; rwa [put_wr] at this
          exact ⟨e3, m1, k2.trans m2 k3 hw2, fun x i b hb => m3 _ _ _ (k3 _ _ _ hb), m4.trans (Keep.put _ _ hKo)⟩
        · cases h1
theorem steps_app {dr : Bool} {ops : List Oper} : ∀ {l1 l2 : List Nat} {s s' : RS}, steps P cf cfg dr ops (l1 ++ l2) s = some s' → ∃ s1, steps P cf cfg dr ops l1 s = some s1 ∧ steps P cf cfg dr ops l2 s1 = some s'
  | [], l2, s, s', h => ⟨s, rfl, h⟩
  | i :: l1, l2, s, s', h => by
    simp only [List.cons_append, steps] at h ⊢
    split at h
    · exact steps_app h
    · split at h
      · exact steps_app h
      · cases h
theorem done_of_run1 {dr : Bool} (h : RR n A e s a w) (hb : opB n o.op = true) (hn : ∀ c, o.op ≠ .call c) {s' : RS} {v : AV} {l : Option Src} (hr : run1 cf cfg dr (plan P cfg dr o s) = some (s', v, l)) : Done P n A o e a w s' v l := by
  have hp := plan_ok (cfg := cfg) (dr := dr) (P := P) h hb
  cases hpl : plan P cfg dr o s with
  | no => rw [hpl] at hr; cases hr
  | yes c s1 v1 l1 =>
    rw [hpl] at hr hp
    simp only [run1] at hr
    obtain ⟨hc, hr⟩ := cond_none hr
    cases hr
    exact hp hc
  | two c s1 va vb =>
    rw [hpl] at hr hp
    simp only [run1, Option.some.injEq, Prod.mk.injEq] at hr
    obtain ⟨rfl, rfl, rfl⟩ := hr
    cases c <;> exact hp
  | elt T ot s1 f =>
    rw [hpl] at hr hp
    simp only [run1] at hr
    cases ot with
    | none => cases hr
    | some x => cases hr; exact hp x rfl
  | call g args s1 =>
    rw [hpl] at hp
    obtain ⟨c, _, _, _, _, hc, _⟩ := hp
    exact absurd hc (hn c)
theorem put_self (a : Act) (t : Nat) : a.put (some t) (Act.at a t) = a := by
  unfold Act.at Act.put
  obtain ⟨tm, d⟩ := a
  simp only [Array.getD_eq_getD_getElem?]
  rcases Nat.lt_or_ge t tm.size with h | h
  · have : tm.setIfInBounds t tm[t] = tm := by
      refine Array.ext (by simp) fun j h1 h2 => ?_
      rw [Array.getElem_setIfInBounds]
      split
      · rename_i he; subst he; rfl
      · rfl
    simp [h, this]
  · simp [Array.setIfInBounds, Nat.not_lt.2 h]
def estDE (P : Program) (cf : CallK) (cfg : Cfg) (n : Nat) (fr0 : Fr) (ks : List Nat) (pre ops : List Oper) (tS tI tV tP : Nat) : Fr → Stack → Wr → Kont → Option Res := fun fr H wr k =>
  opers P cf (cfgN ops cfg) true ops pre { fr, als := noAls, H, wr := [], lds := noLds } fun s =>
    match s.als tS, s.fr tI, s.fr tV with
    | some (.slot sl), .int _ i, .int .u8 v => match s.fr sl with
      | .slice (.int .u8) xs .mine => bif (decide (0 ≤ i) && decide (i < (xs.length : Int))) && Nat.blt sl n then
          k .normal (estFr fr0 s.fr ks sl tP (.slice (.int .u8) (setAt xs i.toNat v) .mine)) (dropH s.H) wr
        else none
      | _ => none
    | _, _, _ => none
theorem estD_ok (hcf : CfOK P A cf) {fr0 : Fr} {ks : List Nat} {pre : List Oper} {ops : Array Oper} {oA oB : Oper} {id qa tS tI tV tP : Nat} {xt et : TypeId} (hops : ops.toList = pre ++ [oB]) (hqa : pre[qa]? = some oA) (hD : DrawSt P ops) (hb : opsB n ops.toList = true) (hK : ∀ o ∈ ops.toList, ∀ d, o.dst = some d → d ∉ ks)
    (mB : ∀ k, k < pre.length → Must ops k pre.length) (mA : ∀ (k : Nat) o d, pre[k]? = some o → o.dst = some d → (d = tS ∨ d = tI ∨ d = tP) → k = qa ∨ Must ops k qa)
    (hA : oA.op = .indexAddr xt (.tmp tS) (.tmp tI)) (hA1 : oA.dst = some tP) (hA2 : oA.guard = none) (hB : oB.op = .store et (.tmp tP) (.tmp tV)) (hB1 : oB.dst = none) (hB2 : oB.guard = none) (hne : tS ≠ tP ∧ tI ≠ tP) (hxt : P.underlying xt = some (.slice et)) (het : okT P et = true) (hsz : sizeB P et = 1)
    (hw0 : WOK e0 w0) (hr0 : ∀ l i, rhoAt e0.rho l i = none) (hfr0 : FRel n e0 fr0 a0) :
    BodyL (fun t => t ∈ ks) P n A e0 a0 w0 (.region id ops true) (estDE P cf cfg n fr0 ks pre ops.toList tS tI tV tP) := by
  intro fr H wr k r hr
  unfold estDE at hr
  obtain ⟨s, h1, h2⟩ := opers_steps' hcf pre 0 _ (fun j x hx => by
    rw [hops, Nat.zero_add]
    have := (List.getElem?_eq_some_iff.1 hx).1
    rw [List.getElem?_append_left this]; exact hx) hr
  split at h2
  · rename_i sl ki i v hals hi hv
    split at h2
    · rename_i xs hx
      obtain ⟨hc, h3⟩ := cond_none h2
      simp only [Bool.and_eq_true, decide_eq_true_eq, blt_iff] at hc
      obtain ⟨⟨c1, c2⟩, c3⟩ := hc
      refine ⟨.normal, _, _, _, h3, fun e a w hC hG hKp => wp_region_draw fun t => ?_⟩
      have hsize : ops.size = pre.length + 1 := by have := congrArg List.length hops; simpa using this
      have hsch : Region.schedule (P.follows .mixedOrders) ops t = Region.linearise .any ops t := by
        unfold Region.schedule; rw [hD.mixed]; simp
      rw [hsch]
      unfold Region.linearise
      obtain ⟨acc, a1, a2, a3, a4, a5⟩ := go_spec hD.back ops.size t (Array.replicate ops.size false) [] ⟨by simp, fun i hi => by simp [Array.getD_eq_getD_getElem?, Array.getElem?_replicate, hi], by simp, by simp, trivial⟩ (by simp)
      rw [a1]
      have hall : ∀ i, i < ops.size → i ∈ acc := fun i hi => by
        by_cases hm : i ∈ acc
        · exact hm
        · exfalso
          have := nodup_len (i :: acc) (List.range ops.size) (List.nodup_cons.2 ⟨hm, a3⟩) fun x hx => by
            rcases List.mem_cons.1 hx with rfl | hx
            · exact List.mem_range.2 hi
            · exact List.mem_range.2 (a5 x hx)
          simp at this
          omega
      obtain ⟨u0, v0, hacc⟩ := List.append_of_mem (hall pre.length (by omega))
      subst hacc
      have hu0 : u0 = [] := by
        cases u0 with
        | nil => rfl
        | cons x u =>
          exfalso
          have hn := List.nodup_cons.1 a3
          have hxs := a5 x (by simp)
          have hxq : x ≠ pre.length := fun he => hn.1 (by rw [he]; simp)
          have := Must.mem (mB x (by omega)) a4
          exact hn.1 (by simp [this])
      subst hu0
      rw [List.nil_append] at a3 a4 a5 hall a2
      obtain ⟨n1, n2⟩ := List.nodup_cons.1 a3
      have hv0 : ∀ i ∈ v0, i < pre.length := fun i hi => by
        have h1 := a5 i (List.mem_cons_of_mem _ hi)
        have h2 : i ≠ pre.length := fun he => n1 (he ▸ hi)
        omega
      have hqlt : qa < pre.length := (List.getElem?_eq_some_iff.1 hqa).1
      have hqv : qa ∈ v0 := by
        have := hall qa (by omega)
        rcases List.mem_cons.1 this with h | h
        · omega
        · exact h
      have hperm : v0.reverse.Perm (List.range pre.length) := by
        refine (List.reverse_perm v0).trans ?_
        refine (List.perm_ext_iff_of_nodup n2 List.nodup_range).2 fun i => ⟨fun hi => List.mem_range.2 (hv0 i hi), fun hi => ?_⟩
        have hlt := List.mem_range.1 hi
        have := hall i (by omega)
        rcases List.mem_cons.1 this with h | h
        · omega
        · exact h
      have hpair : ∀ (acc : List Nat), EdgesB ops acc → (∀ i ∈ acc, i < ops.size) → acc.Nodup → acc.Pairwise (fun b a => a < b ∨ Cmp P ops.toList b a) := by
        intro acc
        induction acc with
        | nil => intro _ _ _; exact List.Pairwise.nil
        | cons b r ih =>
          intro he hl hn
          refine List.pairwise_cons.2 ⟨fun a ha => ?_, ih he.2 (fun i hi => hl i (by simp [hi])) (List.nodup_cons.1 hn).2⟩
          rcases Nat.lt_or_ge a b with hab | hab
          · exact .inl hab
          · right
            have hne : a ≠ b := fun e => (List.nodup_cons.1 hn).1 (e ▸ ha)
            rcases hD.pair b a (by omega) (hl a (by simp [ha])) with hm | hc
            · exfalso
              obtain ⟨u, v, hr⟩ := List.append_of_mem ha
              have hb : b ∈ v := by
                refine Must.mem hm (p := b :: u) (r := v) ?_
                rw [hr] at he
                exact he
              exact (List.nodup_cons.1 hn).1 (by rw [hr]; simp [hb])
            · exact hc
      have hst1 : steps P cf (cfgN ops.toList cfg) true ops.toList v0.reverse { fr, als := noAls, H, wr := [], lds := noLds } = some s := by
        refine any_order hcf (fun h => h) rfl (fun i j x y hij hx hy hn hl => noLoads_ok hn i j x y hij hx hy hl) hD.still v0.reverse (List.range pre.length) [] _ hperm List.pairwise_lt_range ?_ (fun x hx => ?_) (fun t src hs => by simp [noAls] at hs) (fun i hi => by cases hi) ?_
        · exact List.pairwise_reverse.2 (hpair v0 a4.2 (fun i hi => by have := hv0 i hi; omega) n2)
        · have hx' := hv0 x (List.mem_reverse.1 hx)
          exact ⟨ops.toList[x]'(by simp; omega), List.getElem?_eq_getElem _⟩
        · rw [List.range_eq_range']; exact h1
      obtain ⟨u1, v1, hv1⟩ := List.append_of_mem hqv
      subst hv1
      have hrev : (pre.length :: (u1 ++ qa :: v1)).reverse = v1.reverse ++ qa :: (u1.reverse ++ [pre.length]) := by simp
      have hrev2 : (u1 ++ qa :: v1).reverse = v1.reverse ++ qa :: u1.reverse := by simp
      rw [hrev2] at hst1
      obtain ⟨s1, t1, t2⟩ := steps_app hst1
      rw [List.nil_append, hrev]
      have hgA : ops.toList[qa]? = some oA := by rw [hops, List.getElem?_append_left hqlt]; exact hqa
      have gA : ops[qa]? = some oA := by simpa using hgA
      have gB : ops[pre.length]? = some oB := by
        have : ops.toList[pre.length]? = some oB := by rw [hops, List.getElem?_append_right (Nat.le_refl _)]; simp
        simpa using this
      have oA' := opsB_get hb hgA
      have oB' := opsB_get hb (show ops.toList[pre.length]? = some oB by simpa using gB)
      have bA := oA'.1
      rw [hA] at bA
      simp only [opB, Bool.and_eq_true] at bA
      have bB := oB'.1
      rw [hB] at bB
      simp only [opB, Bool.and_eq_true] at bB
      have ltS : tS < n := opdB_ok bA.1
      have ltI : tI < n := opdB_ok bA.2
      have ltV : tV < n := opdB_ok bB.2
      have ltP : tP < n := opdB_ok bB.1
      have hnP : tP ∉ ks := hK oA (List.mem_of_getElem? hgA) tP hA1
      simp only [steps, hgA] at t2
      cases hsA : step1 P cf (cfgN ops.toList cfg) true ops.toList oA s1 with
      | none => rw [hsA] at t2; cases t2
      | some s2 =>
      rw [hsA] at t2
      simp only at t2
      unfold step1 at hsA
      rw [hA2] at hsA
      simp only [wantedV] at hsA
      cases hrun : run1 cf (cfgN ops.toList cfg) true (plan P (cfgN ops.toList cfg) true oA s1) with
      | none => rw [hrun] at hsA; cases hsA
      | some x =>
      obtain ⟨s2', vA, lA⟩ := x
      rw [hrun] at hsA
      simp only [Option.some.injEq] at hsA
      subst hsA
      have hGd : GL e0 w0 e { w with drawn := w.drawn + 1 } := ⟨hG.os, hG.tape, hG.output, hG.size, hG.blk⟩
      have hKd : Kept (fun t => t ∈ ks) a0 w0 e a { w with drawn := w.drawn + 1 } := ⟨hKp.slot, hKp.marks⟩
      have hRR0 : RR n A e { fr, als := noAls, H, wr := [], lds := noLds } a { w with drawn := w.drawn + 1 } := ⟨hC.drew.wok, hC.drew.hr, hC.drew.fr, fun t src _ hs => by simp [noAls] at hs⟩
      refine wpOps_app _ a _ (steps_sim (K := fun t => t ∈ ks) hcf hb hK _ e _ a _ s1 hRR0 t1 _ fun a1 w1 hP => ?_)
      obtain ⟨e1, hR1, hGr1, hRh1, hKe1⟩ := hP
      have hG1 := hGd.grow hGr1.one
      have hK1 := (hKe1.kept (w := { w with drawn := w.drawn + 1 }) (e' := e1) (w' := w1)).trans hKd hGd.size hGr1.one
      obtain ⟨e2, w2, u, d1, d2, d3, d4, d5, d6⟩ := done_of_run1 hR1 oA'.1 (fun c hc => by rw [hA] at hc; cases hc) hrun
      obtain ⟨e3, k1, k2, k3⟩ := d2.putOp (o := oA) oA'.2 d3 d4
      have hdst : ¬ (tP ∈ ks) := hnP
      have hGr3 := (d5.trans k2 d6 (fun _ _ h => h))
      have hG3 := hG1.grow hGr3.one
      have hKe3 : Keep (fun t => t ∈ ks) a1 (a1.put oA.dst u) := Keep.put _ _ (fun t ht => by rw [hA1] at ht; cases ht; exact hdst)
      have hK3 := (hKe3.kept (w := w1) (e' := e3) (w' := w2)).trans hK1 hG1.size hGr3.one
      have hpt : ∀ t, t < n → Act.at (a1.put oA.dst u) t = if t = tP then u else Act.at a1 t := fun t ht => by
        rw [hA1]; exact Act.at_put a1 tP t u (by rw [hR1.fr.size]; exact ltP)
      simp only [wpOps, thenQ]
      rw [gA]
      simp only
      rw [if_pos (by unfold Region.wanted; rw [hA2])]
      left
      have hrest : wpOps P ops (CPostL (fun t => t ∈ ks) n A e0 a0 w0 .normal (estFr fr0 s.fr ks sl tP (.slice (.int .u8) (setAt xs i.toNat v) .mine)) (dropH s.H)) (u1.reverse ++ [pre.length]) (a1.put oA.dst u) w2 := by
        refine wpOps_app _ _ _ (steps_simL (K := fun t => t ∈ ks ∨ (t = tS ∨ t = tI ∨ t = tP)) hcf hb _ e3 _ _ w2 s (fun j hj o ho d hd hk => ?_) k1 t2 _ fun a4 w4 hP => ?_)
        · rcases hk with hk | hk
          · exact hK o (List.mem_of_getElem? ho) d hd hk
          · have hj' : j ∈ u1 := List.mem_reverse.1 hj
            have hjlt := hv0 j (by simp [hj'])
            have hn := List.nodup_append.1 n2
            have hpj : pre[j]? = some o := by rw [hops, List.getElem?_append_left hjlt] at ho; exact ho
            rcases mA j o d hpj hd hk with rfl | hm
            · exact hn.2.2 j hj' j (by simp) rfl
            · have : j ∈ v1 := Must.mem hm (p := pre.length :: u1) a4
              exact hn.2.2 j hj' j (by simp [this]) rfl
        · obtain ⟨e5, hR, hGr, hRh, hKe⟩ := hP
          have hG5 := hG3.grow hGr.one
          have hKe5 : Keep (fun t => t ∈ ks) (a1.put oA.dst u) a4 := ⟨hKe.defers, fun t ht => hKe.slot t (.inl ht)⟩
          have hK5 := (hKe5.kept (w := w2) (e' := e5) (w' := w4)).trans hK3 hG3.size hGr.one
          have eS : Act.at a4 tS = Act.at a1 tS := by rw [hKe.slot tS (.inr (.inl rfl)), hpt tS ltS, if_neg hne.1]
          have eI : Act.at a4 tI = Act.at a1 tI := by rw [hKe.slot tI (.inr (.inr (.inl rfl))), hpt tI ltI, if_neg hne.2]
          have eP : Act.at a4 tP = u := by rw [hKe.slot tP (.inr (.inr (.inr rfl))), hpt tP ltP, if_pos rfl]
          have hI0 : VR e5 none none (.int ki i) (Act.at a4 tI) := by
            have := hR.fr.val tI ltI
            rw [hi] at this
            simpa only [VR] using this
          have hV0 := hR.fr.val tV ltV
          rw [hv] at hV0
          simp only [VR] at hV0
          obtain ⟨hslt, hSe⟩ := hR.als tS _ ltS hals
          obtain ⟨b, len, cap, c, ty, fz, g1, g2, g3, g4, g5, g6⟩ := est_core (tP := tP) hR hG5 hK5 hw0 hr0 hfr0 c3 hI0 hSe hx c1 c2 hV0.2
          have hI1 := hI0
          simp only [VR] at hI1
          obtain ⟨d, hd⟩ := okT_iff het
          have hu : u = .pointer (some ⟨b, i.toNat, none⟩) := by
            have runA : (execOp a1.eval oA).run P w1 = .ok (.value (.pointer (some ⟨b, i.toNat, none⟩))) w1 := by
              refine exec_v (S := Instr.indexAt xt (a1.eval (.tmp tS)) (a1.eval (.tmp tI))) (by unfold execOp; rw [hA]) ?_
              rw [Act.at_eval, Act.at_eval, ← eS, ← eI, hSe, g1, hI1.1, run_indexAt_slice w1 xt _ _ _ _ _ (by rw [elem_of hxt]; exact hxt), elem_of hxt, if_pos ⟨c1, by omega⟩, sizeOf_run w1 hd]
              simp only [Result.andThen_ok, Addr.add_eq, hsz, Nat.zero_add, Nat.mul_one]
            rcases d1 with d1 | ⟨d1, _⟩
            · rw [runA] at d1
              simp only [Result.ok.injEq, Next.value.injEq] at d1
              exact d1.1.symm
            · rw [runA] at d1
              simp at d1
          simp only [wpOps, thenQ]
          rw [gB]
          simp only
          rw [if_pos (by unfold Region.wanted; rw [hB2])]
          left
          obtain ⟨w6, r1, r2, r3, r4, r5, r6, r7⟩ := storeCells_run (P := P) (b := b) (o0 := i.toNat) (ty := ty) (lo := fz.1) (hi := fz.2) [.int .u8 v] 0 c w4 g4 (by simp; omega) (fun k hk hh => by rcases g5 with g5 | g5 <;> omega) (by simp [Value.oneCell'])
          have runB : (execOp a4.eval oB).run P w4 = .ok .skip w6 := by
            refine exec_u (S := Instr.storeAt et (a4.eval (.tmp tP)) (a4.eval (.tmp tV))) (by unfold execOp; rw [hB]) ?_
            rw [Act.at_eval, Act.at_eval, eP, hu, hV0.1]
            have hce : (Value.int .u8 v).cells.size = sizeB P et := by rw [hsz]; rfl
            have hcl : (Value.int .u8 v).cells.toList = [.int .u8 v] := rfl
            simp only [Instr.storeAt, Instr.sureAddr, Sem.run_bind, Sem.run_pure, Result.andThen_ok, storeVar, sizeOf_run w4 hd, if_neg (show ¬ (Value.int .u8 v).cells.size ≠ sizeB P et by rw [hce]; simp), hcl, r1]
          unfold Oper.wp
          rw [runB, Oper.upon_skip, hB1]
          rw [Nat.add_zero] at r2
          obtain ⟨e6, m1, m2, m3⟩ := g6 w6 (Act.at a4 tP) (by rw [r2]) r3 r4 r5 r6 r7 hnP ltP
          rw [put_self] at m1 m3
          exact ⟨trivial, e6, m1, m2, m3⟩
      unfold Oper.wp
      rcases d1 with d1 | ⟨d1, d1'⟩
      · rw [d1, Oper.upon_value]; exact hrest
      · rw [d1, Oper.upon_skip, ← d1']; exact hrest
    · cases h2
  · cases h2
structure StoreD where
  p : Nat
  xt : Nat
  et : Nat
  q : Nat
  qa : Nat
  tS : Nat
  tI : Nat
  tV : Nat
  tP : Nat
def allBits (m : Nat) : Nat → Bool
  | 0 => true
  | k + 1 => Nat.testBit m k && allBits m k
theorem allBits_ok {m : Nat} : ∀ {q : Nat}, allBits m q = true → ∀ k, k < q → Nat.testBit m k = true
  | 0, _, k, hk => by omega
  | q + 1, h, k, hk => by
    simp only [allBits, Bool.and_eq_true] at h
    rcases Nat.lt_or_ge k q with h' | h'
    · exact allBits_ok h.2 k h'
    · rw [show k = q by omega]; exact h.1
def dstsB (m qa : Nat) (ts : List Nat) : List Oper → Nat → Bool
  | [], _ => true
  | o :: r, k => (match o.dst with | some d => !memN d ts || (Nat.beq k qa || Nat.testBit m k) | none => true) && dstsB m qa ts r (k + 1)
theorem dstsB_ok {m qa : Nat} {ts : List Nat} : ∀ {l : List Oper} {b : Nat}, dstsB m qa ts l b = true → ∀ (k : Nat) o d, l[k]? = some o → o.dst = some d → d ∈ ts → b + k = qa ∨ Nat.testBit m (b + k) = true
  | [], b, _, k, o, d, h, _, _ => by simp at h
  | x :: r, b, h, k, o, d, ho, hd, hm => by
    simp only [dstsB, Bool.and_eq_true] at h
    cases k with
    | zero =>
      simp at ho; subst ho
      have h1 := h.1
      rw [hd] at h1
      simp only [Bool.or_eq_true, Bool.not_eq_true', beq_iff] at h1
      rcases h1 with h1 | h1
      · rw [(memN_iff d ts).2 hm] at h1; cases h1
      · exact h1
    | succ k =>
      have := dstsB_ok h.2 k o d (by simpa using ho) hd hm
      rwa [show b + 1 + k = b + (k + 1) by omega] at this
def shapeD (P : Program) (n : Nat) (ks : List Nat) (ops : List Oper) (dr : Bool) (x : StoreD) : Bool :=
  (dr && (drawB P ops && (opsB n ops && (noDst ks ops && Nat.beq (lenN ops) (x.q + 1))))) && ((match nth ops x.qa, nth ops x.q, nth (masks [] ops) x.qa, nth (masks [] ops) x.q with
    | some oA, some oB, some mA, some mB => (isA oA x.xt x.tS x.tI && (dstIs oA x.tP && guardNone oA)) && ((isB oB x.et x.tP x.tV && (dstNone oB && guardNone oB)) && (allBits mB x.q && dstsB mA x.qa [x.tS, x.tI, x.tP] (tkN x.q ops) 0))
    | _, _, _, _ => false) && (Nat.blt x.qa x.q && ((!Nat.beq x.tS x.tP && !Nat.beq x.tI x.tP) && ((match P.underlying x.xt with | some (.slice e) => Nat.beq e x.et | _ => false) && (okT P x.et && Nat.beq (sizeB P x.et) 1)))))
def estDAt (P : Program) (cf : CallK) (cfg : Cfg) (n : Nat) (fr0 : Fr) (ks : List Nat) (x : StoreD) : List Oper → Fr → Stack → Wr → Kont → Option Res := fun ops => estDE P cf cfg n fr0 ks (tkN x.q ops) ops x.tS x.tI x.tV x.tP
theorem estDAt_ok (hcf : CfOK P A cf) (hm : P.follows .mixedOrders = true) {fr0 : Fr} {ks : List Nat} {id : Nat} {x : StoreD} {ops : Array Oper} {dr : Bool} (h : shapeD P n ks ops.toList dr x = true) (hw0 : WOK e0 w0) (hr0 : ∀ l i, rhoAt e0.rho l i = none) (hfr0 : FRel n e0 fr0 a0) :
    BodyL (fun t => t ∈ ks) P n A e0 a0 w0 (.region id ops dr) (estDAt P cf cfg n fr0 ks x ops.toList) := by
  unfold shapeD at h
  simp only [Bool.and_eq_true] at h
  obtain ⟨⟨h1, h2, h3, h4, h5⟩, h6, h7, ⟨h8, h9⟩, h10, h11, h12⟩ := h
  subst h1
  have hlen : ops.toList.length = x.q + 1 := by rw [← lenN_eq]; exact (beq_iff _ _).1 h5
  rw [nth_eq, nth_eq, nth_eq, nth_eq] at h6
  split at h6
  · rename_i oA oB mA mB gA gB gmA gmB
    simp only [Bool.and_eq_true] at h6
    obtain ⟨⟨a1, a2, a3⟩, ⟨b1, b2, b3⟩, c1, c2⟩ := h6
    rw [blt_iff] at h7
    have kA : oA.op = .indexAddr x.xt (.tmp x.tS) (.tmp x.tI) := by
      unfold isA at a1
      split at a1
      · rename_i y a b ho
        simp only [Bool.and_eq_true, beq_iff] at a1
        obtain ⟨rfl, rfl, rfl⟩ := a1
        exact ho
      · cases a1
    have kB : oB.op = .store x.et (.tmp x.tP) (.tmp x.tV) := by
      unfold isB at b1
      split at b1
      · rename_i y a b ho
        simp only [Bool.and_eq_true, beq_iff] at b1
        obtain ⟨rfl, rfl, rfl⟩ := b1
        exact ho
      · cases b1
    have dA : oA.dst = some x.tP := by
      unfold dstIs at a2
      cases hd : oA.dst with
      | none => rw [hd] at a2; cases a2
      | some d => rw [hd] at a2; rw [(beq_iff _ _).1 a2]
    have gAn : oA.guard = none := by unfold guardNone at a3; cases hd : oA.guard with
      | none => rfl
      | some d => rw [hd] at a3; cases a3
    have dB : oB.dst = none := by unfold dstNone at b2; cases hd : oB.dst with
      | none => rfl
      | some d => rw [hd] at b2; cases b2
    have gBn : oB.guard = none := by unfold guardNone at b3; cases hd : oB.guard with
      | none => rfl
      | some d => rw [hd] at b3; cases b3
    have hxt : P.underlying x.xt = some (.slice x.et) := by
      split at h10
      · rename_i e' hu; rw [hu, (beq_iff _ _).1 h10]
      · cases h10
    have hpl : (tkN x.q ops.toList).length = x.q := by rw [tkN_eq, List.length_take]; omega
    have hops : ops.toList = tkN x.q ops.toList ++ [oB] := by
      rw [tkN_eq]
      have e1 : ops.toList.drop x.q = [oB] := by
        refine List.ext_getElem? fun j => ?_
        rw [List.getElem?_drop]
        match j with
        | 0 => simpa using gB
        | j + 1 => rw [List.getElem?_eq_none (by omega)]; simp
      rw [← e1, List.take_append_drop]
    have hmk := masks_ok (ops := ops) ops.toList [] (by simp) (by simp)
    refine estD_ok (pre := tkN x.q ops.toList) (qa := x.qa) hcf hops (by rw [tkN_eq, List.getElem?_take, if_pos h7]; exact gA) (drawB_ok hm h2) h3 (noDst_ok h4) (fun k hk => ?_) (fun k o d ho hd hdd => ?_) kA dA gAn kB dB gBn ⟨?_, ?_⟩ hxt h11 ((beq_iff _ _).1 h12) hw0 hr0 hfr0
    · rw [hpl] at hk ⊢
      exact hmk x.q mB gmB k (allBits_ok c1 k hk)
    · have := dstsB_ok c2 k o d ho hd (by rcases hdd with rfl | rfl | rfl <;> simp)
      rw [Nat.zero_add] at this
      rcases this with h | h
      · exact .inl h
      · exact .inr (hmk x.qa mA gmA k h)
    · simp only [Bool.not_eq_true'] at h8; exact beq_false.1 h8
    · simp only [Bool.not_eq_true'] at h9; exact beq_false.1 h9
  · cases h6
def estDL (P : Program) (cf : CallK) (cfg : Cfg) (g : Nat) (fr0 : Fr) (ks : List Nat) : List StoreD → Est
  | [], _ => none
  | x :: r, p => bif Nat.beq p x.p then some (estDAt P cf cfg (ntm P g) fr0 ks x) else estDL P cf cfg g fr0 ks r p
def shapesD (P : Program) (g : Nat) (ks : List Nat) (l : List StoreD) : List (Nat × Nat × Array Oper × Bool) → Bool
  | [] => true
  | (p, _, ops, dr) :: r => shape1 l p ops dr && shapesD P g ks l r
where shape1 : List StoreD → Nat → Array Oper → Bool → Bool
  | [], _, _, _ => true
  | x :: r, p, ops, dr => bif Nat.beq p x.p then shapeD P (ntm P g) ks ops.toList dr x else shape1 r p ops dr
theorem estDL_some {g : Nat} {fr0 : Fr} {ks : List Nat} : ∀ (l : List StoreD) (p : Nat), memN p (l.map (·.p)) = (estDL P cf cfg g fr0 ks l p).isSome
  | [], p => rfl
  | x :: r, p => by
    simp only [List.map_cons, memN, estDL]
    have hc : Nat.beq x.p p = Nat.beq p x.p := by
      cases h : Nat.beq x.p p with
      | true => rw [(beq_iff _ _).1 h, (beq_iff p p).2 rfl]
      | false => exact (beq_false.2 (Ne.symm (beq_false.1 h))).symm
    rw [hc]
    cases Nat.beq p x.p with
    | true => rfl
    | false => exact estDL_some r p
theorem shapeD1_ok (hcf : CfOK P A cf) (hm : P.follows .mixedOrders = true) {g : Nat} {fr0 : Fr} {ks : List Nat} {p id : Nat} {ops : Array Oper} {dr : Bool} : ∀ (l : List StoreD), shapesD.shape1 P g ks l p ops dr = true → ∀ E, estDL P cf cfg g fr0 ks l p = some E → EstOK P A g ks fr0 (.region id ops dr) (E ops.toList)
  | [], h, E, hE => by cases hE
  | x :: r, h, E, hE => by
    simp only [shapesD.shape1] at h
    simp only [estDL] at hE
    cases hb : Nat.beq p x.p with
    | true =>
      rw [hb] at h hE
      simp only [cond_true, Option.some.injEq] at h hE
      subst hE
      exact fun e0 a0 w0 h1 h2 h3 => estDAt_ok hcf hm h h1 h2 h3
    | false =>
      rw [hb] at h hE
      exact shapeD1_ok hcf hm r h E hE
theorem shapesD_ok (hcf : CfOK P A cf) (hm : P.follows .mixedOrders = true) {g : Nat} {fr0 : Fr} {ks : List Nat} {l : List StoreD} : ∀ (rs : List (Nat × Nat × Array Oper × Bool)), shapesD P g ks l rs = true → ∀ x ∈ rs, ∀ E, estDL P cf cfg g fr0 ks l x.1 = some E → EstOK P A g ks fr0 (.region x.2.1 x.2.2.1 x.2.2.2) (E x.2.2.1.toList)
  | [], _, x, hx => by cases hx
  | (p, id, ops, dr) :: r, h, x, hx => by
    simp only [shapesD, Bool.and_eq_true] at h
    rcases List.mem_cons.1 hx with rfl | hx
    · exact fun E hE => shapeD1_ok hcf hm l h.1 E hE
    · exact shapesD_ok hcf hm r h.2 x hx
theorem law_storeD (hcf : CfOK P A cf) (hm : P.follows .mixedOrders = true) {g : Nat} {ks : List Nat} {l : List StoreD} {args : List AV} (hb : funLB P g (l.map (·.p)) ks = true) (hs : shapesD P g ks l (funRegs P g) = true)
    (h : bodyL P cf cfg (fun _ => none) (estDL P cf cfg g (nthD (up.ups args)) ks l) g args = some (.bool true, [], []))
    (w : World) (vs : Array Value) (ha : ArgsP w args vs.toList) : Calls P g vs w fun e w' => e = .returned (.bool true) ∧ Below w.heap.size w w' :=
  law_callsL hcf hm hb (fun p => estDL_some l p) (shapesD_ok hcf hm _ hs) h w vs ha
end Go.Vm
/- Regions of drawn order in which an object is made beside calls of functions of data alone. -/
set_option linter.unusedVariables false
set_option linter.unusedSimpArgs false
namespace Go.Vm
open Go.RowKit (Below)
variable {P : Program} {cf : CallK} {cfg : Cfg} {s s1 s2 : RS} {o : Oper} {A : AbsR} {ops : List Oper}
def Swp (P : Program) (cf : CallK) (cfg : Cfg) (ops : List Oper) (x y : Oper) : Prop :=
  (floatB P x.op = false ∧ floatB P y.op = false) ∧ (∀ s s1 s2, step1 P cf cfg true ops x s = some s1 → step1 P cf cfg true ops y s1 = some s2 → ∃ t, step1 P cf cfg true ops y s = some t ∧ step1 P cf cfg true ops x t = some s2) ∧
    ∀ s s1 s2, step1 P cf cfg true ops y s = some s1 → step1 P cf cfg true ops x s1 = some s2 → ∃ t, step1 P cf cfg true ops x s = some t ∧ step1 P cf cfg true ops y t = some s2
def CmpX (P : Program) (cf : CallK) (cfg : Cfg) (ops : List Oper) (i j : Nat) : Prop :=
  ∀ x y, ops[i]? = some x → ops[j]? = some y → (∃ d, Beside P ops x y d) ∨ (∃ d, Beside P ops y x d) ∨ Swp P cf cfg ops x y ∨ Swp P cf cfg ops y x
structure DrawStX (P : Program) (cf : CallK) (cfg : Cfg) (ops : Array Oper) : Prop where
  mixed : P.follows .mixedOrders = true
  still : Still P ops.toList
  back : ∀ (i : Nat) o, ops[i]? = some o → ∀ e ∈ o.after.toList, Region.binds .any e = true → e.on < i
  pair : ∀ i j, i < j → j < ops.size → Must ops i j ∨ CmpX P cf (cfgN ops.toList cfg) ops.toList i j
end Go.Vm
