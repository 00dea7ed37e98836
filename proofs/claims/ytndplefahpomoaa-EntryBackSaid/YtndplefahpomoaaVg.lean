/- A part of an evaluator of loaded programs and of the proof that it is right. Conditions: none. -/
import Derived.Test.YtndplefahpomoaaVf
import Derived.Laws.LoneSync
import Derived.Test.YtndplefahpomoaaVa
import Derived.KernelRfl
import Derived.Orders
set_option linter.unusedVariables false
set_option linter.unusedSimpArgs false
/- One object alone: a contract that is shown where there is nothing but it holds wherever it lies. Objects whose cells are numbers, seen as a whole. -/
set_option linter.unusedVariables false
set_option linter.unusedSimpArgs false
namespace Go.Vm
open Go.RowKit (Below)
variable {P : Program} {cf : CallK} {cfg : Cfg} {A : AbsR} {e : Env} {w : World}

theorem Invokes.mono {g : FuncId} {vs : Array Value} {R R' : Value → World → Prop} (h : Invokes P g vs w R) (hr : ∀ v w', R v w' → R' v w') : Invokes P g vs w R' :=
  fun o a next Q hk => h o a next Q fun v w' hx => hk v w' (hr v w' hx)
theorem Invokes.of_value {g : FuncId} {vs : Array Value} {R : Value → World → Prop} {v : Value} {w' : World} (h : (callFunc g vs).run P w = .ok (.value v) w') (hr : R v w') : Invokes P g vs w R := by
  intro o a next Q hk
  rw [h]
  exact hk v w' hr
def rsOf (S : Stack) : RS := { fr := fun _ => .undef, als := noAls, H := S, wr := [], lds := noLds }
def noPtrOb : Ob → Bool
  | .cells cs => noPtr.noPtrs cs
  | .abs _ _ => true
theorem noPtrs_get : ∀ {as : List AV}, noPtr.noPtrs as = true → ∀ (i : Nat) (a : AV), as[i]? = some a → noPtr a = true
  | [], _, i, a, h => by simp at h
  | x :: r, hn, i, a, h => by
    simp only [noPtr.noPtrs, Bool.and_eq_true] at hn
    cases i with
    | zero => simp at h; subst h; exact hn.1
    | succ i => exact noPtrs_get hn.2 i a (by simpa using h)
def lonF (l i : Nat) : Pl → Pl
  | .ob l' i' => if l' = l ∧ i' = i then .ob 1 0 else .hid (.ob l' i')
  | .cell l' i' o => if l' = l ∧ i' = i then .cell 1 0 o else .hid (.cell l' i' o)
  | .io a b => .io a b
  | p => .hid p
def outF1 (l i : Nat) : Pl → Pl
  | .ob 1 0 => .ob l i
  | .cell 1 0 o => .cell l i o
  | .hid p => p
  | .io a b => .io a b
  | p => .hid p
theorem ob_ren {l i l0 i0 b : Nat} {x : Ob} {e1 e2 : Env} {f : Pl → Pl} {w' : World} (hx : noPtrOb x = true) (h : ObR A e1 w' l0 i0 b x) (hf : f (.ob l0 i0) = .ob l i) (hc : ∀ o, f (.cell l0 i0 o) = .cell l i o) (ho : e2.own = (e1.ren f).own) (hcl : e2.cl = e1.cl) : ObR A e2 w' l i b x := by
  obtain ⟨c, ty, fz, h1, h2, h3, h4⟩ := h
  refine ⟨c, ty, fz, h1, by rw [ho, Env.ren_own h2, hf], by rw [hcl]; exact h3, ?_⟩
  cases x with
  | abs k d => exact h4
  | cells cs =>
    refine ⟨h4.1, fun o av u ha hu => ?_⟩
    have hv := h4.2 o av u ha hu
    have hv2 : VR ((e1.dr l0).ren f) (some (.cell l i o)) none av u := VR.ren (f := f) (by simp [hc]) (by simp) hv
    exact VR.noPtr (e := (e1.dr l0).ren f) (e' := e2.dr l) hcl ho av _ _ u (noPtrs_get hx o av ha) hv2
/-- a contract of one object without pointers. -/
theorem frame1 {g : FuncId} {o : Nat} {rest : List AV} {x x' : Ob} {v : AV} {wr0 : Wr} (hrest : noPtr.noPtrs rest = true) (hv : noPtr v = true) (hx : noPtrOb x = true) (hx' : noPtrOb x' = true)
    (h : SimCall P A g (.ptr 1 0 o :: rest) [[], [x]] (v, wr0, [[], [x']])) {l i : Nat} {S : Stack} (hg : getH S l i = some x) :
    SimCall P A g (.ptr l i o :: rest) S (v, bif memWr 1 0 wr0 then [(l, i)] else [], setH S l i x') := by
  intro e vs w hw hH hA
  obtain ⟨b, hb, hob⟩ := hH.ob l i x hg
  have hown : ∃ n, e.own b = some (.ob l i, n) := by obtain ⟨c, ty, fz, h1, h2, _⟩ := hob; exact ⟨_, h2⟩
  obtain ⟨nb, hown⟩ := hown
  let e0 : Env := { rho := [[], [b]], own := (e.ren (lonF l i)).own, cl := e.cl }
  have hw0 : WOK e0 w := ⟨hw.holds, (hw.ren (f := lonF l i)).free⟩
  have hH0 : HR A e0 [[], [x]] w := by
    refine ⟨⟨rfl, rfl, trivial⟩, fun l' i' y hy => ?_⟩
    match l', i', hy with
    | 0, i', hy => simp [getH, nth] at hy
    | 1, 0, hy =>
      simp only [getH, nth, Option.some.injEq] at hy
      subst hy
      exact ⟨b, rfl, ob_ren hx hob (by simp [lonF]) (by simp [lonF]) rfl rfl⟩
    | 1, i' + 1, hy => simp [getH, nth] at hy
    | l' + 2, i', hy => simp [getH] at hy
  have hA0 : ArgsR e0 (.ptr 1 0 o :: rest) vs.toList := by
    obtain ⟨g1, g2⟩ := hA
    refine ⟨by simpa using g1, fun j y u hy hu => ?_⟩
    cases j with
    | zero =>
      simp only [List.getElem?_cons_zero, Option.some.injEq] at hy
      subst hy
      have := g2 0 (.ptr l i o) u rfl hu
      simp only [VR] at this ⊢
      obtain ⟨b', h1, h2⟩ := this
      rw [hb] at h1; cases h1
      exact ⟨b, rfl, h2⟩
    | succ j =>
      have hy' : rest[j]? = some y := by simpa using hy
      have := g2 (j + 1) y u (by simpa using hy') hu
      exact VR.noPtr (e := e.ren (lonF l i)) (e' := e0) rfl rfl y _ _ u (noPtrs_get hrest j y hy') (VR.ren (by simp [lonF]) (by simp [lonF]) this)
  refine (h e0 vs w hw0 hH0 hA0).mono fun val w' hE => ?_
  obtain ⟨e1, k1, k2, k3, k4, k5⟩ := hE
  have hb1 : rhoAt e1.rho 1 0 = some b := k5 1 0 b rfl
  let e2 : Env := { rho := e.rho, own := (e1.ren (outF1 l i)).own, cl := e1.cl }
  have hnot : ∀ l' i' b', rhoAt e.rho l' i' = some b' → ¬ (l' = l ∧ i' = i) → b' < w.heap.size ∧ ∃ n, e.own b' = some (.ob l' i', n) ∧ e0.own b' = some (.hid (.ob l' i'), n) := by
    intro l' i' b' hb' hne
    obtain ⟨n, hn⟩ := HR.noown (s := rsOf S) hH hb'
    exact ⟨hw.own_lt hn, n, hn, by show (e.ren (lonF l i)).own b' = _; rw [Env.ren_own hn]; simp [lonF, hne]⟩
  refine ⟨e2, ⟨k1.holds, (k1.ren (f := outF1 l i)).free⟩, ⟨hH.par.setH _ _ _, fun l' i' y hy => ?_⟩, ?_, ?_, fun _ _ _ h => h⟩
  · by_cases hne : l' = l ∧ i' = i
    · obtain ⟨rfl, rfl⟩ := hne
      rw [getH_setH_same _ _ _ _ _ hg] at hy
      cases hy
      obtain ⟨b1, hb1', hob1⟩ := k2.ob 1 0 x' rfl
      rw [hb1] at hb1'; cases hb1'
      exact ⟨b, hb, ob_ren hx' hob1 (by simp [outF1]) (by simp [outF1]) rfl rfl⟩
    · have hne' : l' ≠ l ∨ i' ≠ i := by
        by_cases hl : l' = l
        · exact .inr fun hi => hne ⟨hl, hi⟩
        · exact .inl hl
      rw [getH_setH_ne _ _ _ _ _ _ hne'] at hy
      obtain ⟨b2, hb2, c, ty, fz, g1, g2, g3, g4⟩ := hH.ob l' i' y hy
      obtain ⟨q1, n, q2, q3⟩ := hnot l' i' b2 hb2 hne
      obtain ⟨s1, s2, s3⟩ := k4.stay b2 q1 (.inr ⟨_, _, q3⟩)
      rw [g2] at q2
      simp only [Option.some.injEq, Prod.mk.injEq, true_and] at q2
      refine ⟨b2, hb2, c, ty, fz, s1.trans g1, ?_, fun o => (s3 o).trans (g3 o), ?_⟩
      · show (e1.ren (outF1 l i)).own b2 = _
        rw [q3] at s2
        rw [Env.ren_own s2]
        simp [outF1, q2]
      · cases y with
        | abs k d => exact g4
        | cells cs =>
          refine ⟨g4.1, fun o av u ha hu => ?_⟩
          refine VR.mono (e := e.dr l') (e' := e2.dr l') (fun _ _ _ h => h) k4.cl av _ _ none none u (fun p hp => ?_) (by simp) (g4.2 o av u ha hu)
          cases hp
          refine ⟨_, rfl, ⟨fun b3 m hm => ?_⟩⟩
          have hm' : e.own b3 = some (.cell l' i' o, m) := hm
          have h0 : e0.own b3 = some (.hid (.cell l' i' o), m) := by
            show (e.ren (lonF l i)).own b3 = _
            rw [Env.ren_own hm']
            simp [lonF, hne]
          obtain ⟨t1, t2, t3⟩ := k4.stay b3 (hw.own_lt hm') (.inr ⟨_, _, h0⟩)
          rw [h0] at t2
          exact ⟨by show (e1.ren (outF1 l i)).own b3 = _; rw [Env.ren_own t2]; rfl, fun o' ho => (t3 o').trans ho⟩
  · exact VR.noPtr (e := e1.ren (outF1 l i)) (e' := e2) rfl rfl v _ _ val hv (VR.ren (by simp [outF1]) (by simp [outF1]) k3)
  · refine ⟨k4.os, k4.tape, k4.output, k4.size, k4.cl, fun b' hb' ho => ?_, fun _ _ _ h => h, fun l' i' b' hb' hm => ?_⟩
    · rcases ho with ho | ⟨p, n, ho⟩
      · have h0 : e0.own b' = none := by show (e.ren (lonF l i)).own b' = _; simp [Env.ren, ho]
        obtain ⟨t1, t2, t3⟩ := k4.stay b' hb' (.inl h0)
        rw [h0] at t2
        exact ⟨t1, by show (e1.ren (outF1 l i)).own b' = _; simp [Env.ren, t2, ho], t3⟩
      · have h0 : e0.own b' = some (.hid (.hid p), n) := by show (e.ren (lonF l i)).own b' = _; rw [Env.ren_own ho]; rfl
        obtain ⟨t1, t2, t3⟩ := k4.stay b' hb' (.inr ⟨_, _, h0⟩)
        rw [h0] at t2
        exact ⟨t1, by show (e1.ren (outF1 l i)).own b' = _; rw [Env.ren_own t2, ho]; rfl, t3⟩
    · by_cases hne : l' = l ∧ i' = i
      · obtain ⟨rfl, rfl⟩ := hne
        rw [hb] at hb'; cases hb'
        refine k4.obs 1 0 b rfl ?_
        cases hmw : memWr 1 0 wr0 with
        | false => rfl
        | true => rw [hmw] at hm; simp [memWr, (beq_iff _ _).2 rfl] at hm
      · obtain ⟨q1, n, q2, q3⟩ := hnot l' i' b' hb' hne
        exact (k4.stay b' q1 (.inr ⟨_, _, q3⟩)).1

/-! ### Objects of numbers, as a whole -/
def IntsR (cs : List AV) (c : List Value) : Prop :=
  cs.length = c.length ∧ ∀ (o : Nat) av u, cs[o]? = some av → c[o]? = some u → ∃ k n, av = .int k n ∧ u = .int k n ∧ k.has n
def intsB : List AV → Bool
  | [] => true
  | .int _ _ :: r => intsB r
  | _ => false
theorem intsB_get : ∀ {cs : List AV}, intsB cs = true → ∀ (o : Nat) av, cs[o]? = some av → ∃ k n, av = .int k n
  | [], _, o, av, h => by simp at h
  | a :: r, hb, o, av, h => by
    cases a with
    | int k n =>
      cases o with
      | zero => simp at h; exact ⟨k, n, h.symm⟩
      | succ o => exact intsB_get (cs := r) hb o av (by simpa using h)
    | _ => simp [intsB] at hb
theorem IntsR.cells {l i : Nat} {cs : List AV} {c : List Value} (h : IntsR cs c) : CellsR e l i cs c := by
  refine ⟨h.1, fun o av u ha hu => ?_⟩
  obtain ⟨k, n, rfl, rfl, h3⟩ := h.2 o av u ha hu
  simp only [VR]
  exact ⟨trivial, h3⟩
theorem IntsR.of_cells {l i : Nat} {cs : List AV} {c : List Value} (hb : intsB cs = true) (h : CellsR e l i cs c) : IntsR cs c := by
  refine ⟨h.1, fun o av u ha hu => ?_⟩
  obtain ⟨k, n, rfl⟩ := intsB_get hb o av ha
  have := h.2 o _ u ha hu
  simp only [VR] at this
  exact ⟨k, n, rfl, this.1, this.2⟩
/-- what kind of object is which cells. -/
abbrev Kinds := Nat → List Int → List AV → Prop
def absOf (K : Kinds) : AbsR := fun k d c => ∃ cs, K k d cs ∧ IntsR cs c
theorem HR.ofAbs {K : Kinds} {S : Stack} {l i k : Nat} {d : List Int} (hH : HR (absOf K) e S w) (hg : getH S l i = some (.abs k d)) : ∃ cs, K k d cs ∧ HR (absOf K) e (setH S l i (.cells cs)) w := by
  obtain ⟨b, hb, c, ty, fz, h1, h2, h3, cs, h4, h5⟩ := hH.ob l i _ hg
  refine ⟨cs, h4, hH.par.setH _ _ _, fun l' i' y hy => ?_⟩
  by_cases hne : l' = l ∧ i' = i
  · obtain ⟨rfl, rfl⟩ := hne
    rw [getH_setH_same _ _ _ _ _ hg] at hy
    cases hy
    exact ⟨b, hb, c, ty, fz, h1, h2, h3, h5.cells⟩
  · rw [getH_setH_ne _ _ _ _ _ _ (by by_cases hl : l' = l; exact .inr fun hi => hne ⟨hl, hi⟩; exact .inl hl)] at hy
    exact hH.ob l' i' y hy
theorem Par.unsetH : ∀ {R : Rho} {H : Stack} (l i : Nat) (y : Ob), Par R (Vm.setH H l i y) → Par R H
  | [], [], _, _, _, h => by simp [Par]
  | r :: R, a :: S, 0, i, y, h => by simp only [Vm.setH, Par, setAt_eq, List.length_set] at h ⊢; exact h
  | r :: R, a :: S, l + 1, i, y, h => by simp only [Vm.setH, Par] at h ⊢; exact ⟨h.1, Par.unsetH l i y h.2⟩
  | [], _ :: _, 0, _, _, h => by simp [Vm.setH, Par] at h
  | [], _ :: _, _ + 1, _, _, h => by simp [Vm.setH, Par] at h
  | _ :: _, [], _, _, _, h => by simp [Vm.setH, Par] at h
theorem HR.toAbs {K : Kinds} {S : Stack} {l i k : Nat} {d : List Int} {cs : List AV} {x : Ob} (hg0 : getH S l i = some x) (hH : HR (absOf K) e (setH S l i (.cells cs)) w) (hk : K k d cs) (hi : intsB cs = true) : HR (absOf K) e (setH S l i (.abs k d)) w := by
  refine ⟨(hH.par.unsetH _ _ _).setH _ _ _, fun l' i' y hy => ?_⟩
  by_cases hne : l' = l ∧ i' = i
  · obtain ⟨rfl, rfl⟩ := hne
    rw [getH_setH_same _ _ _ _ _ hg0] at hy
    cases hy
    obtain ⟨b, hb, c, ty, fz, h1, h2, h3, h4⟩ := hH.ob l' i' (.cells cs) (getH_setH_same _ _ _ _ _ hg0)
    exact ⟨b, hb, c, ty, fz, h1, h2, h3, cs, hk, IntsR.of_cells hi h4⟩
  · have hn : l' ≠ l ∨ i' ≠ i := by by_cases hl : l' = l; exact .inr fun hi => hne ⟨hl, hi⟩; exact .inl hl
    rw [getH_setH_ne _ _ _ _ _ _ hn] at hy
    exact hH.ob l' i' y (by rw [getH_setH_ne _ _ _ _ _ _ hn]; exact hy)
/-- a call on an object of numbers, alone. -/
theorem abs1 {K : Kinds} {g : FuncId} {args : List AV} {k k' : Nat} {d d' : List Int} {v : AV} {wr : Wr}
    (h : ∀ cs, K k d cs → ∃ cs', K k' d' cs' ∧ intsB cs' = true ∧ SimCall P (absOf K) g args [[], [.cells cs]] (v, wr, [[], [.cells cs']])) :
    SimCall P (absOf K) g args [[], [.abs k d]] (v, wr, [[], [.abs k' d']]) := by
  intro e vs w hw hH hA
  obtain ⟨cs, hk, hH2⟩ := HR.ofAbs (l := 1) (i := 0) hH rfl
  obtain ⟨cs', hk', hi', hs⟩ := h cs hk
  refine (hs e vs w hw hH2 hA).mono fun val w' ⟨e', k1, k2, k3, k4, k5⟩ => ?_
  exact ⟨e', k1, HR.toAbs (S := [[], [.cells cs']]) (l := 1) (i := 0) (x := .cells cs') rfl k2 hk' hi', k3, k4, k5⟩
/-- a call that makes such an object. -/
theorem abs_new {K : Kinds} {g : FuncId} {args : List AV} {k' : Nat} {d' : List Int} {v : AV} {wr : Wr} {l : List Ob} {S : Stack} {cs' : List AV} (hk : K k' d' cs') (hi : intsB cs' = true)
    (h : SimCall P (absOf K) g args (l :: S) (v, wr, app l [.cells cs'] :: S)) : SimCall P (absOf K) g args (l :: S) (v, wr, app l [.abs k' d'] :: S) := by
  intro e vs w hw hH hA
  refine (h e vs w hw hH hA).mono fun val w' ⟨e', k1, k2, k3, k4, k5⟩ => ?_
  refine ⟨e', k1, ?_, k3, k4, k5⟩
  have hg : getH (app l [.cells cs'] :: S) 0 l.length = some (.cells cs') := by simp [getH, nth_eq, app_eq]
  have hset : ∀ y, setH (app l [.cells cs'] :: S) 0 l.length y = app l [y] :: S := by
    intro y
    simp [setH, setAt_eq, app_eq]
  have := HR.toAbs (cs := cs') (l := 0) (i := l.length) hg (by rw [hset]; exact k2) hk hi
  rwa [hset] at this
end Go.Vm

/- Contracts: of functions of data alone, of methods of one object, of functions that make an object; loops' summaries; each told as a decision. -/
set_option linter.unusedVariables false
set_option linter.unusedSimpArgs false
namespace Go.Vm
variable {P : Program} {cf : CallK} {cfg : Cfg} {A : AbsR} {e : Env} {w : World}

abbrev Contract := List AV → Stack → (Res → Option Res) → Option Res
def Con (P : Program) (A : AbsR) (g : Nat) (c : Contract) : Prop :=
  ∀ args S k r, c args S k = some r → ∃ res, (∀ k', c args S k' = k' res) ∧ k res = some r ∧ SimCall P A g args S res ∧ ∀ l i, memWr l i res.2.1 = false → ObE (getH res.2.2 l i) (getH S l i) ∨ (l = 0 ∧ headLen S ≤ i)
structure Ent (P : Program) (A : AbsR) where
  g : Nat
  c : Contract
  ok : Con P A g c
def cfE : List (Ent P A) → CallK
  | [], _, _, _, _ => none
  | x :: r, g, args, S, k => bif Nat.beq g x.g then x.c args S k else cfE r g args S k
theorem cfE_ok : ∀ (l : List (Ent P A)), CfOK P A (cfE l)
  | [] => ⟨fun g args S k r h => (nomatch h), fun g args S res h => (nomatch h), fun g args S res h => (nomatch h)⟩
  | x :: r => by
    have ih := cfE_ok r
    refine ⟨fun g args S k q h => ?_, fun g args S res h => ?_, fun g args S res h => ?_⟩
    · simp only [cfE] at h ⊢
      cases hb : Nat.beq g x.g with
      | true =>
        rw [hb] at h
        obtain ⟨res, h1, h2, _⟩ := x.ok args S k q h
        exact ⟨res, by simpa using h1 some, h2⟩
      | false => rw [hb] at h; simpa using ih.nat g args S k q h
    · simp only [cfE] at h
      cases hb : Nat.beq g x.g with
      | true =>
        rw [hb] at h
        obtain ⟨res', h1, h2, h3, _⟩ := x.ok args S some res h
        cases h2
        rw [(beq_iff _ _).1 hb]; exact h3
      | false => rw [hb] at h; exact ih.sim g args S res h
    · simp only [cfE] at h
      cases hb : Nat.beq g x.g with
      | true =>
        rw [hb] at h
        obtain ⟨res', h1, h2, _, h3⟩ := x.ok args S some res h
        cases h2
        exact h3
      | false => rw [hb] at h; exact ih.frame g args S res h

/-! ### What may be supposed -/
theorem SimCall.ranged {g : FuncId} {args : List AV} {S : Stack} {res : Res} (h : okAVs args → okH S → SimCall P A g args S res) : SimCall P A g args S res := by
  intro e vs w h1 h2 h3
  refine h ?_ h2.ok e vs w h1 h2 h3
  rw [okAVs_iff]
  intro v hv
  obtain ⟨i, hi⟩ := List.getElem?_of_mem hv
  have hlt : i < vs.toList.length := by rw [← h3.1]; exact (List.getElem?_eq_some_iff.1 hi).1
  exact VR.ok v _ _ _ (h3.2 i v _ hi (List.getElem?_eq_getElem hlt))
theorem SimCall.wr {g : FuncId} {args : List AV} {S S' : Stack} {v : AV} {wr wr' : Wr} (h : SimCall P A g args S (v, wr, S')) (hw : WLe wr wr') : SimCall P A g args S (v, wr', S') := by
  intro e vs w h1 h2 h3
  exact (h e vs w h1 h2 h3).mono fun val w' ⟨e', k1, k2, k3, k4, k5⟩ => ⟨e', k1, k2, k3, k4.weaken hw, k5⟩

/-! ### Functions of data -/
def pureC (f : List AV → Tr AV) : Contract := fun args S k => (f args).run fun v => k (v, [], S)
theorem copyvs_refl_ObE (x : Option Ob) : ObE x x := by
  cases x with
  | none => rfl
  | some x => cases x <;> rfl
theorem pureC_ok {g : Nat} {f : List AV → Tr AV} (h : ∀ args v, (f args).val = some v → okAVs args → ∀ S, SimCall P A g args S (v, [], S)) : Con P A g (pureC f) := by
  intro args S k r hc
  obtain ⟨v, h1, h2, h3⟩ := Tr.run_val hc
  refine ⟨(v, [], S), fun k' => ?_, h2, SimCall.ranged fun ho _ => h args v h1 ho S, fun l i _ => .inl (copyvs_refl_ObE _)⟩
  exact h3 fun v => k' (v, [], S)

/-! ### Methods of one object -/
def objC (off : Nat) (f : Ob → List AV → Tr (AV × Bool × Ob)) : Contract := fun args S k => match args with
  | .ptr l i o :: rest => bif Nat.beq o off then (match getH S l i with
      | some x => (f x rest).run fun y => match y with | (v, wrote, x') => k (v, bif wrote then [(l, i)] else [], bif wrote then setH S l i x' else S)
      | none => none) else none
  | _ => none
theorem setH_same : ∀ {S : Stack} {l i : Nat} {x : Ob}, getH S l i = some x → setH S l i x = S
  | [], _, _, _, h => by simp [getH] at h
  | a :: S, 0, i, x, h => by
    simp only [getH, nth_eq] at h
    simp only [setH, setAt_eq]
    congr 1
    refine List.ext_getElem? fun j => ?_
    rw [List.getElem?_set]
    by_cases hij : i = j
    · subst hij
      rw [if_pos rfl]
      have : i < a.length := (List.getElem?_eq_some_iff.1 h).1
      rw [if_pos this, h]
    · rw [if_neg hij]
  | a :: S, l + 1, i, x, h => by
    simp only [getH] at h
    simp only [setH]
    rw [setH_same h]
theorem objC_ok {g off : Nat} {f : Ob → List AV → Tr (AV × Bool × Ob)}
    (h : ∀ x rest v wrote x', (f x rest).val = some (v, wrote, x') → noPtrOb x = true ∧ noPtr.noPtrs rest = true ∧ noPtr v = true ∧ noPtrOb x' = true ∧ (wrote = false → x' = x) ∧
      (okAVs rest → okH [[], [x]] → SimCall P A g (.ptr 1 0 off :: rest) [[], [x]] (v, bif wrote then [(1, 0)] else [], [[], [x']]))) : Con P A g (objC off f) := by
  intro args S k r hc
  unfold objC at hc ⊢
  split at hc
  · rename_i l i o rest
    cases hb : Nat.beq o off with
    | false => simp only [hb, cond_false] at hc; cases hc
    | true =>
    have ho := (beq_iff _ _).1 hb
    subst ho
    cases hg : getH S l i with
    | none => simp only [hb, hg, cond_true] at hc; cases hc
    | some x =>
      simp only [hb, hg, cond_true] at hc
      obtain ⟨⟨v, wrote, x'⟩, h1, h2, h3⟩ := Tr.run_val hc
      obtain ⟨g1, g2, g3, g4, g5, g6⟩ := h x rest v wrote x' h1
      refine ⟨(v, bif wrote then [(l, i)] else [], bif wrote then setH S l i x' else S), fun k' => ?_, h2, ?_, fun l' i' hm => ?_⟩
      · simp only [hb, cond_true, hg]
        exact h3 _
      · refine SimCall.ranged fun ha hh => ?_
        have hok : okH [[], [x]] := by
          intro l' i' cs hcs
          match l', i', hcs with
          | 0, i', hcs => simp [getH, nth] at hcs
          | 1, 0, hcs =>
            simp only [getH, nth, Option.some.injEq] at hcs
            subst hcs
            exact hh l i cs hg
          | 1, i' + 1, hcs => simp [getH, nth] at hcs
          | l' + 2, i', hcs => simp [getH] at hcs
        have hs := frame1 g2 g3 g1 g4 (g6 (by simp only [okAVs] at ha; exact ha.2) hok) hg
        cases wrote with
        | true => simpa [memWr, (beq_iff _ _).2 rfl] using hs
        | false =>
          rw [g5 rfl] at hs
          rw [setH_same hg] at hs
          simpa [memWr] using hs
      · cases wrote with
        | false => exact .inl (copyvs_refl_ObE _)
        | true =>
          simp only [cond_true] at hm ⊢
          refine .inl ?_
          have hne : l' ≠ l ∨ i' ≠ i := by
            simp only [memWr, Bool.or_false, Bool.and_eq_false_iff, beq_false] at hm
            exact hm
          rw [getH_setH_ne _ _ _ _ _ _ hne]
          exact copyvs_refl_ObE _
  · cases hc

/-! ### Functions that make an object -/
def newC (f : List AV → Tr Ob) : Contract := fun args S k => match S with
  | l :: S' => (f args).run fun x => k (.ptr 0 (lenN l) 0, [], app l [x] :: S')
  | [] => none
theorem newC_ok {g : Nat} {f : List AV → Tr Ob} (h : ∀ args x, (f args).val = some x → okAVs args → ∀ l S, SimCall P A g args (l :: S) (.ptr 0 (lenN l) 0, [], app l [x] :: S)) : Con P A g (newC f) := by
  intro args S k r hc
  unfold newC at hc ⊢
  cases S with
  | nil => cases hc
  | cons l S =>
    obtain ⟨x, h1, h2, h3⟩ := Tr.run_val hc
    refine ⟨(.ptr 0 (lenN l) 0, [], app l [x] :: S), fun k' => h3 _, h2, SimCall.ranged fun ho _ => h args x h1 ho l S, fun l' i' _ => ?_⟩
    cases l' with
    | succ l' => exact .inl (copyvs_refl_ObE _)
    | zero =>
      simp only [headLen, lenN_eq]
      rcases Nat.lt_or_ge i' l.length with hi | hi
      · left
        simp only [getH, nth_eq, app_eq]
        rw [List.getElem?_append_left hi]
        exact copyvs_refl_ObE _
      · exact .inr ⟨trivial, hi⟩

/-! ### Loops -/
def sumT (f : List AV → Stack → Tr (Ex × List AV × Stack × Wr)) : List AV → Stack → Wr → (Ex → List AV → Stack → Wr → Option Res) → Option Res :=
  fun vs H wr k => (f vs H).run fun y => match y with | (ex, vs', H', w) => k ex vs' H' (app w wr)
def loopT (live outs : List Nat) (f : List AV → Stack → Tr (Ex × List AV × Stack × Wr)) : LoopSum := ⟨live, outs, sumT f⟩
theorem loopT_ok {n : Nat} {body : Fr → Stack → Wr → Kont → Option Res} {live outs : List Nat} {f : List AV → Stack → Tr (Ex × List AV × Stack × Wr)} (hlt : ∀ t ∈ live, t < n)
    (h : ∀ vs H wr ex vs' H' w, (f vs H).val = some (ex, vs', H', w) → okAVs vs → okH H → ∃ N, ∀ k : Ex → List AV → Stack → Wr → Option Res, loopC body live (headLen H) N vs H wr (fun ex fr H' wr' => k ex (pickAll fr outs) H' wr') = k ex vs' H' (app w wr)) : LoopOK n body (loopT live outs f) where
  lt := hlt
  nat := fun vs H wr k r hs => by
    obtain ⟨⟨ex, vs', H', w⟩, h1, h2, h3⟩ := Tr.run_val hs
    exact ⟨ex, vs', H', app w wr, WLe.right w wr, h2⟩
  ok := fun vs H wr k r hs ha hh => by
    obtain ⟨⟨ex, vs', H', w⟩, h1, h2, h3⟩ := Tr.run_val hs
    obtain ⟨N, hN⟩ := h vs H wr ex vs' H' w h1 ha hh
    exact ⟨N, (hN k).trans h2⟩
/-- the code of loop number j of a function. -/
def lcode (P : Program) (g j : Nat) : Code := match nth (funLoops P g) j with | some x => x.2 | none => .skip
def lpos (P : Program) (g : Nat) : List Nat := mapN (·.1) (funLoops P g)
def lfOf : List (Nat × LoopSum) → Nat → Option LoopSum
  | [], _ => none
  | (p, L) :: r, q => bif Nat.beq q p then some L else lfOf r q
theorem no_loops {g : Nat} {lf : Nat → Option LoopSum} (h : lpos P g = []) : ∀ x ∈ funLoops P g, ∀ L, lf x.1 = some L → LoopOK (ntm P g) (fun fr H wr k => code P cf cfg lf (cfg.live g) x.2 (2 * x.1) fr H wr k) L := by
  have : funLoops P g = [] := by
    unfold lpos at h
    rw [mapN_eq] at h
    simpa using h
  rw [this]
  intro x hx
  cases hx
theorem all_loops {g : Nat} {lf : Nat → Option LoopSum} {ps : List Nat} (h : lpos P g = ps) (hall : ∀ j p, ps[j]? = some p → ∀ L, lf p = some L → LoopOK (ntm P g) (fun fr H wr k => code P cf cfg lf (cfg.live g) (lcode P g j) (2 * p) fr H wr k) L) :
    ∀ x ∈ funLoops P g, ∀ L, lf x.1 = some L → LoopOK (ntm P g) (fun fr H wr k => code P cf cfg lf (cfg.live g) x.2 (2 * x.1) fr H wr k) L := by
  intro x hx L hL
  obtain ⟨j, hj⟩ := List.getElem?_of_mem hx
  have hp : ps[j]? = some x.1 := by
    rw [← h]
    unfold lpos
    rw [mapN_eq, List.getElem?_map, hj]
    rfl
  have := hall j x.1 hp L hL
  unfold lcode at this
  rwa [nth_eq, hj] at this
theorem one_loop {g p : Nat} {L : LoopSum} {lf : Nat → Option LoopSum} (hlf : lf p = some L) (h : lpos P g = [p]) (hL : LoopOK (ntm P g) (fun fr H wr k => code P cf cfg lf (cfg.live g) (lcode P g 0) (2 * p) fr H wr k) L) :
    ∀ x ∈ funLoops P g, ∀ L, lf x.1 = some L → LoopOK (ntm P g) (fun fr H wr k => code P cf cfg lf (cfg.live g) x.2 (2 * x.1) fr H wr k) L := by
  refine all_loops h fun j q hq L' hL' => ?_
  cases j with
  | zero =>
    simp at hq
    subst hq
    rw [hlf] at hL'
    cases hL'
    exact hL
  | succ j => simp at hq
/-- the contract out of the body's equation. -/
theorem fun_call (l : List (Ent P A)) (hm : P.follows .mixedOrders = true) {lf : Nat → Option LoopSum} {g : Nat} {args : List AV} {S : Stack} {res : Res} (hn : ((P.funcs[g]?).map fun fn => fn.name == "runtime.NumGoroutine") = some false) (hb : funB P g = true)
    (hl : ∀ x ∈ funLoops P g, ∀ L, lf x.1 = some L → LoopOK (ntm P g) (fun fr H wr k => code P (cfE l) cfg lf (cfg.live g) x.2 (2 * x.1) fr H wr k) L) (h : body P (cfE l) cfg lf g args S some = some res) : SimCall P A g args S res :=
  fun_invokes (cfE_ok l) hm hn hb hl h
end Go.Vm

/- One cell of an object is written, told of memory alone; the atomic operations on a number. -/
set_option linter.unusedVariables false
set_option linter.unusedSimpArgs false
namespace Go.Vm
open Go.RowKit (Below)
variable {P : Program} {A : AbsR} {e : Env} {w : World}

theorem Free.frozen {b n o : Nat} (h : Free w b n) (ho : o < n) : w.frozen? ⟨b, o, none⟩ = false := by
  obtain ⟨c, ty, lo, hi, h1, h2, h3⟩ := h
  simp only [World.frozen?, h1]
  rcases h3 with h3 | h3
  · simp; omega
  · simp; omega
/-- what lies at an object's cell. -/
theorem HR.cell {S : Stack} {l i : Nat} {cs : List AV} (hw : WOK e w) (hH : HR A e S w) (hg : getH S l i = some (.cells cs)) : ∃ b, rhoAt e.rho l i = some b ∧ ∀ o k n, cs[o]? = some (.int k n) → w.cell? ⟨b, o, none⟩ = some (.int k n) ∧ k.has n ∧ w.frozen? ⟨b, o, none⟩ = false := by
  obtain ⟨b, hb, c, ty, fz, h1, h2, h3, h4⟩ := hH.ob l i _ hg
  refine ⟨b, hb, fun o k n ho => ?_⟩
  have hlt : o < c.toList.length := by rw [← h4.1]; exact (List.getElem?_eq_some_iff.1 ho).1
  have hv := h4.2 o _ _ ho (List.getElem?_eq_getElem hlt)
  simp only [VR] at hv
  refine ⟨?_, hv.2, (hw.free b _ _ h2).frozen (by simpa using hlt)⟩
  simp only [World.cell?, h1]
  have hs : o < c.size := by simpa using hlt
  simp only [Option.isSome_none, Bool.false_eq_true, if_false]
  rw [Array.getElem?_eq_getElem hs]
  simpa using hv.1
theorem store1 {S : Stack} {l i o : Nat} {cs : List AV} {k : IntKind} {n : Int} {b : Nat} (hw : WOK e w) (hH : HR A e S w) (hg : getH S l i = some (.cells cs)) (hb : rhoAt e.rho l i = some b) (ho : o < cs.length) (hk : k.has n) :
    ∃ e', WOK e' (w.setCell ⟨b, o, none⟩ (.int k n)) ∧ HR A e' (setH S l i (.cells (setAt cs o (.int k n)))) (w.setCell ⟨b, o, none⟩ (.int k n)) ∧ Grow e w e' (w.setCell ⟨b, o, none⟩ (.int k n)) [(l, i)] ∧ RhoLe e e' := by
  obtain ⟨b', hb', c, ty, fz, h1, h2, h3, h4⟩ := hH.ob l i _ hg
  rw [hb] at hb'; cases hb'
  have hr : RR 0 A e (rsOf S) ⟨#[], []⟩ w := ⟨hw, hH, ⟨rfl, fun t ht => absurd ht (by omega)⟩, fun t src ht => absurd ht (by omega)⟩
  have hx : ∀ q, q ≠ b → (w.setCell ⟨b, o, none⟩ (.int k n)).heap[q]? = w.heap[q]? := fun q hq => Go.RowKit.Below.heap_setCell _ _ _ _ hq
  have hc : (w.setCell ⟨b, o, none⟩ (.int k n)).heap[b]? = some (.cells (putL c.toList o (Value.int k n).cells.toList).toArray ty fz) := by
    simp only [World.setCell]
    rw [Array.getElem?_modify, if_pos rfl, h1]
    simp only [Option.map_some, Option.some.injEq]
    have hco : o < c.size := by
      have := h4.1
      simp at this
      omega
    simp only [Value.cells, putL]
    congr 1
    apply Array.ext'
    simp
  have hw2 := RR.write (off := o) (v := .int k n) (u := .int k n) hr hb hg h1 hc hx rfl (by simp only [VR]; exact ⟨trivial, hk⟩) (by simp [cellsOf]; omega) (by simp [noPtr])
  refine ⟨_, hw2.wok, ?_, Grow.write (s := rsOf S) hH (f := stF l i o) (fun p => rfl) hb hx rfl rfl rfl (by simp [World.setCell]) , fun _ _ _ h => h⟩
  have := hw2.hr
  simpa [rsOf, putCells, cellsOf] using this
theorem drew_ok (hw : WOK e w) : WOK e w.drew := ⟨hw.holds, hw.free⟩
theorem HR.drewW {S : Stack} (h : HR A e S w) : HR A e S w.drew := ⟨h.par, h.ob⟩

/-! ### Atomic operations -/
theorem args2 {g : FuncId} {l i o : Nat} {k : IntKind} {x : Int} {vs : Array Value} {b : Nat} (hb : rhoAt e.rho l i = some b) (h : ArgsR e [.ptr l i o, .int k x] vs.toList) : vs = #[.pointer (some ⟨b, o, none⟩), .int k x] ∧ k.has x := by
  obtain ⟨h1, h2⟩ := h
  obtain ⟨l0⟩ := vs
  match l0, h1 with
  | [v0, v1], _ =>
    have g0 := h2 0 _ v0 rfl rfl
    have g1 := h2 1 _ v1 rfl rfl
    simp only [VR] at g0 g1
    obtain ⟨b', q1, q2⟩ := g0
    rw [hb] at q1; cases q1
    rw [q2, g1.1]
    exact ⟨rfl, g1.2⟩
theorem args1 {l i o : Nat} {vs : Array Value} {b : Nat} (hb : rhoAt e.rho l i = some b) (h : ArgsR e [.ptr l i o] vs.toList) : vs = #[.pointer (some ⟨b, o, none⟩)] := by
  obtain ⟨h1, h2⟩ := h
  obtain ⟨l0⟩ := vs
  match l0, h1 with
  | [v0], _ =>
    have g0 := h2 0 _ v0 rfl rfl
    simp only [VR] at g0
    obtain ⟨b', q1, q2⟩ := g0
    rw [hb] at q1; cases q1
    rw [q2]
theorem ext_add {f : FuncId} {fn : Func} (hf : P.funcs[f]? = some fn) (hname : (fn.name == "runtime.NumGoroutine") = false) (hb : fn.body.isNone = true) (hn : Extern.findNext fn = none) (k : IntKind)
    (he : Extern.find fn = some (Extern.Atomic.update (Op.intArith .add) k true)) {S : Stack} {l i o : Nat} {cs : List AV} {n x : Int} (hg : getH S l i = some (.cells cs)) (hc : cs[o]? = some (.int k n)) :
    SimCall P A f [.ptr l i o, .int k x] S (.int k (k.wrap (n + x)), [(l, i)], setH S l i (.cells (setAt cs o (.int k (k.wrap (n + x)))))) := by
  intro e vs w hw hH hA
  obtain ⟨b, hb', hcell⟩ := HR.cell hw hH hg
  obtain ⟨g1, g2, g3⟩ := hcell o k n hc
  obtain ⟨rfl, hx⟩ := args2 (g := f) hb' hA
  obtain ⟨e', k1, k2, k3, k4⟩ := store1 hw hH hg hb' (List.getElem?_eq_some_iff.1 hc).1 (wrap_has k (n + x))
  exact Invokes.of_value (run_call_add hf hname hb hn k he g1 g3 (s := k.wrap (n + x)) rfl) ⟨e', k1, k2, by simp only [VR]; exact ⟨trivial, wrap_has _ _⟩, k3, k4⟩
theorem ext_load {f : FuncId} {fn : Func} (hf : P.funcs[f]? = some fn) (hname : (fn.name == "runtime.NumGoroutine") = false) (hb : fn.body.isNone = true) (hn : Extern.findNext fn = none) (k : IntKind)
    (he : Extern.find fn = some (Extern.Atomic.loadT (.int k))) {S : Stack} {l i o : Nat} {cs : List AV} {n : Int} (hg : getH S l i = some (.cells cs)) (hc : cs[o]? = some (.int k n)) :
    SimCall P A f [.ptr l i o] S (.int k n, [], S) := by
  intro e vs w hw hH hA
  obtain ⟨b, hb', hcell⟩ := HR.cell hw hH hg
  obtain ⟨g1, g2, g3⟩ := hcell o k n hc
  obtain rfl := args1 hb' hA
  exact Invokes.of_value (run_call_load hf hname hb hn k he g1) ⟨e, hw, hH, by simp only [VR]; exact ⟨trivial, g2⟩, Grow.refl _ _ _, fun _ _ _ h => h⟩
end Go.Vm

/- Operations on bits, told of natural numbers. -/
namespace Go.Vm
theorem wrap_of {k : IntKind} {n : Int} (h1 : k.min ≤ n) (h2 : n ≤ k.max) : k.wrap n = n := by
  cases k <;> simp [IntKind.wrap, IntKind.min, IntKind.max, IntKind.signed, IntKind.bits] at * <;> omega
theorem bvNat (w a : Nat) (h : a < 2 ^ w) : (BitVec.ofInt w (a : Int)).toNat = a := by
  rw [BitVec.ofInt_natCast, BitVec.toNat_ofNat, Nat.mod_eq_of_lt h]
theorem xor_u {w a b : Nat} (ha : a < 2 ^ w) (hb : b < 2 ^ w) : (BitVec.ofInt w (a : Int) ^^^ BitVec.ofInt w (b : Int)).toNat = a ^^^ b := by
  rw [BitVec.toNat_xor, bvNat w a ha, bvNat w b hb]
theorem and_u {w a b : Nat} (ha : a < 2 ^ w) (hb : b < 2 ^ w) : (BitVec.ofInt w (a : Int) &&& BitVec.ofInt w (b : Int)).toNat = a &&& b := by
  rw [BitVec.toNat_and, bvNat w a ha, bvNat w b hb]
theorem or_u {w a b : Nat} (ha : a < 2 ^ w) (hb : b < 2 ^ w) : (BitVec.ofInt w (a : Int) ||| BitVec.ofInt w (b : Int)).toNat = a ||| b := by
  rw [BitVec.toNat_or, bvNat w a ha, bvNat w b hb]
theorem natCast_toNat {n : Int} (h : 0 ≤ n) : ((n.toNat : Nat) : Int) = n := Int.toNat_of_nonneg h
theorem bitop_xor_u32 {a b : Nat} (ha : a < 2 ^ 32) (hb : b < 2 ^ 32) : bitop .xor .u32 (a : Int) (b : Int) = ((a ^^^ b : Nat) : Int) := by
  have : a ^^^ b < 2 ^ 32 := Nat.xor_lt_two_pow ha hb
  show IntKind.u32.wrap _ = _
  rw [show IntKind.u32.bits = 32 from rfl, xor_u ha hb]
  exact wrap_of (by simp [IntKind.min, IntKind.signed]) (by simp [IntKind.max, IntKind.signed, IntKind.bits]; omega)
theorem bitop_and_u32 {a b : Nat} (ha : a < 2 ^ 32) (hb : b < 2 ^ 32) : bitop .and .u32 (a : Int) (b : Int) = ((a &&& b : Nat) : Int) := by
  have : a &&& b < 2 ^ 32 := Nat.and_lt_two_pow _ hb
  show IntKind.u32.wrap _ = _
  rw [show IntKind.u32.bits = 32 from rfl, and_u ha hb]
  exact wrap_of (by simp [IntKind.min, IntKind.signed]) (by simp [IntKind.max, IntKind.signed, IntKind.bits]; omega)
theorem bitop_xor_u8 {a b : Nat} (ha : a < 2 ^ 8) (hb : b < 2 ^ 8) : bitop .xor .u8 (a : Int) (b : Int) = ((a ^^^ b : Nat) : Int) := by
  have : a ^^^ b < 2 ^ 8 := Nat.xor_lt_two_pow ha hb
  show IntKind.u8.wrap _ = _
  rw [show IntKind.u8.bits = 8 from rfl, xor_u ha hb]
  exact wrap_of (by simp [IntKind.min, IntKind.signed]) (by simp [IntKind.max, IntKind.signed, IntKind.bits]; omega)
theorem shiftR_nat (k : IntKind) (a j : Nat) (hj : j ≤ k.bits) : shiftR k (a : Int) (j : Int) = ((a / 2 ^ j : Nat) : Int) := by
  unfold shiftR
  rw [Int.toNat_natCast, Nat.min_eq_left hj, Int.fdiv_eq_ediv_of_nonneg _ (by exact_mod_cast Nat.zero_le _)]
  norm_cast
theorem u32_lt {n : Int} (h : IntKind.u32.min ≤ n ∧ n ≤ IntKind.u32.max) : 0 ≤ n ∧ n.toNat < 2 ^ 32 := by
  simp [IntKind.min, IntKind.max, IntKind.signed, IntKind.bits] at h
  omega
theorem u8_lt {n : Int} (h : IntKind.u8.min ≤ n ∧ n ≤ IntKind.u8.max) : 0 ≤ n ∧ n.toNat < 2 ^ 8 := by
  simp [IntKind.min, IntKind.max, IntKind.signed, IntKind.bits] at h
  omega
theorem i64_le {n : Int} (h : IntKind.i64.min ≤ n ∧ n ≤ IntKind.i64.max) : -9223372036854775808 ≤ n ∧ n ≤ 9223372036854775807 := by
  simp [IntKind.min, IntKind.max, IntKind.signed, IntKind.bits] at h
  omega
theorem wrap_i64 {n : Int} (h1 : -9223372036854775808 ≤ n) (h2 : n ≤ 9223372036854775807) : IntKind.i64.wrap n = n :=
  wrap_of (by simp [IntKind.min, IntKind.signed, IntKind.bits]; omega) (by simp [IntKind.max, IntKind.signed, IntKind.bits]; omega)
theorem wrap_u32 {n : Int} (h1 : 0 ≤ n) (h2 : n ≤ 4294967295) : IntKind.u32.wrap n = n :=
  wrap_of (by simp [IntKind.min, IntKind.signed]; omega) (by simp [IntKind.max, IntKind.signed, IntKind.bits]; omega)
theorem wrap_u8 {n : Int} (h1 : 0 ≤ n) (h2 : n ≤ 255) : IntKind.u8.wrap n = n :=
  wrap_of (by simp [IntKind.min, IntKind.signed]; omega) (by simp [IntKind.max, IntKind.signed, IntKind.bits]; omega)
theorem wrap_u8_nat (a : Nat) : IntKind.u8.wrap (a : Int) = ((a % 256 : Nat) : Int) := by
  simp [IntKind.wrap, IntKind.signed, IntKind.bits]
theorem wrap_u32_nat (a : Nat) : IntKind.u32.wrap (a : Int) = ((a % 4294967296 : Nat) : Int) := by
  simp [IntKind.wrap, IntKind.signed, IntKind.bits]
end Go.Vm

/- Hints, as lists. -/
namespace Go.Vm
def look (l : List (Nat × List Nat)) (g : Nat) : Option (List Nat) :=
  match l with
  | [] => none
  | (h, x) :: r => bif Nat.beq g h then some x else look r g
def look2 (l : List (Nat × Nat × List Nat)) (g p : Nat) : Option (List Nat) :=
  match l with
  | [] => none
  | (h, q, x) :: r => bif Nat.beq g h && Nat.beq p q then some x else look2 r g p
/-- own: which arguments are handed over with their right; res: whose results come with theirs; live: which slots live at a loop's head. -/
def cfgOf (own : List (Nat × List Nat)) (res : List Nat) (live : List (Nat × Nat × List Nat)) : Cfg :=
  { ownArgs := fun g => match look own g with | some l => l | none => [], ownRes := fun g => memN g res, live := look2 live }
end Go.Vm

/- Small things for contracts by hand. -/
set_option linter.unusedVariables false
set_option linter.unusedSimpArgs false
namespace Go.Vm
variable {P : Program} {A : AbsR} {e : Env} {w : World}
/-- a loop of a function, told by what is wanted behind it. -/
def LC (P : Program) (cf : CallK) (cfg : Cfg) (lf : Nat → Option LoopSum) (g j p : Nat) (live outs : List Nat) (N : Nat) (vs : List AV) (H : Stack) (wr : Wr) (k : Ex → List AV → Stack → Wr → Option Res) : Option Res :=
  loopC (fun fr H wr k => code P cf cfg lf (cfg.live g) (lcode P g j) (2 * p) fr H wr k) live (headLen H) N vs H wr (fun ex fr H' wr' => k ex (pickAll fr outs) H' wr')
theorem setH_setH : ∀ (S : Stack) (l i : Nat) (x y : Ob), setH (setH S l i x) l i y = setH S l i y
  | [], _, _, _, _ => rfl
  | a :: S, 0, i, x, y => by simp [setH, setAt_eq]
  | a :: S, l + 1, i, x, y => by simp [setH, setH_setH S l i x y]
theorem Invokes.calls {g : FuncId} {fn : Func} {c : Code} {vs : Array Value} {R : Value → World → Prop} (hf : P.funcs[g]? = some fn) (hname : (fn.name == "runtime.NumGoroutine") = false) (hb : fn.body = some c) (h : Invokes P g vs w R) :
    Calls P g vs w fun | .returned v, w' => R v w' | _, _ => False := by
  have := h { dst := some 0, op := .move (.tmp 0), type := 0, pos := "", after := #[], guard := none } ⟨#[undef], []⟩ (fun a w' => R (a.tmps.getD 0 undef) w') (fun _ _ _ => False) (fun v w' hr => by simpa [Act.put] using hr)
  rw [MuLone.run_callFunc_enter hf hname hb, Oper.upon_enter] at this
  refine this.mono fun x w' hx => ?_
  cases x with
  | returned v => simpa [Act.put] using hx
  | panicked ch => exact hx
  | outgrown => obtain ⟨_, _, hx⟩ := hx; exact hx
theorem memWr_rep (l i a b : Nat) : ∀ n, memWr l i [(a, b)] = false → memWr l i (repApp n [(a, b)]) = false
  | 0, _ => rfl
  | n + 1, h => by
    simp only [repApp, memWr_app, memWr_rep l i a b n h, h, Bool.or_self]
theorem cond_eq {α : Type} {b : Bool} {x y : α} (h : b = true) : (bif b then x else y) = x := by rw [h]; rfl
theorem cond_ne {α : Type} {b : Bool} {x y : α} (h : b = false) : (bif b then x else y) = y := by rw [h]; rfl
theorem at_some {α : Type} {xs : List α} {i : Nat} {x : α} (h : xs[i]? = some x) : at? xs (i : Int) = some x := by
  unfold at?
  rw [if_pos (by omega)]
  simpa using h
/-- a row's beginning, taken off. -/
def stripI : List AV → List AV → Option (List AV)
  | [], cs => some cs
  | .int k n :: r, .int k' n' :: r' => match kindEq k k', n == n' with | some _, true => stripI r r' | _, _ => none
  | _, _ => none
theorem stripI_some : ∀ {p cs r : List AV}, stripI p cs = some r → cs = p ++ r
  | [], cs, r, h => by cases h; rfl
  | .int k n :: p, .int k' n' :: cs, r, h => by
    simp only [stripI] at h
    split at h
    · rename_i q hq hn
      cases q with
      | up h0 =>
        subst h0
        have := stripI_some h
        rw [this]
        simp only [beq_iff_eq] at hn
        subst hn
        rfl
    · cases h
  | .int _ _ :: _, [], _, h => by cases h
  | .undef :: _, _, _, h => by cases h
  | .bool _ :: _, _, _, h => by cases h
  | .str _ :: _, _, _, h => by cases h
  | .slice _ _ _ :: _, _, _, h => by cases h
  | .ptr _ _ _ :: _, _, _, h => by cases h
  | .nilp :: _, _, _, h => by cases h
  | .cptr _ _ :: _, _, _, h => by cases h
  | .func _ _ _ :: _, _, _, h => by cases h
  | .nilf :: _, _, _, h => by cases h
  | .agg _ :: _, _, _, h => by cases h
  | .tuple _ :: _, _, _, h => by cases h
  | .int _ _ :: _, .undef :: _, _, h => by cases h
  | .int _ _ :: _, .bool _ :: _, _, h => by cases h
  | .int _ _ :: _, .str _ :: _, _, h => by cases h
  | .int _ _ :: _, .slice _ _ _ :: _, _, h => by cases h
  | .int _ _ :: _, .ptr _ _ _ :: _, _, h => by cases h
  | .int _ _ :: _, .nilp :: _, _, h => by cases h
  | .int _ _ :: _, .cptr _ _ :: _, _, h => by cases h
  | .int _ _ :: _, .func _ _ _ :: _, _, h => by cases h
  | .int _ _ :: _, .nilf :: _, _, h => by cases h
  | .int _ _ :: _, .agg _ :: _, _, h => by cases h
  | .int _ _ :: _, .tuple _ :: _, _, h => by cases h
end Go.Vm
namespace Go.Vm
variable {P : Program} {A : AbsR}
/-- a slice of which it is not known whether it is nil. -/
theorem SimCall.nilsplit {g : FuncId} {T : Ty} {xs : List T.interp} {rest : List AV} {S : Stack} {res : Res} (h1 : SimCall P A g (.slice T xs .nn :: rest) S res) (h2 : xs = [] → SimCall P A g (.slice T xs .nilv :: rest) S res) : SimCall P A g (.slice T xs .view :: rest) S res := by
  intro e vs w hw hH hA
  obtain ⟨g1, g2⟩ := hA
  have hl : 0 < vs.toList.length := by rw [← g1]; simp
  have hv := g2 0 _ _ rfl (List.getElem?_eq_getElem hl)
  simp only [VR] at hv
  obtain ⟨⟨a, len, cap, q1, q2, q3, q4, q5, q6⟩, _⟩ := hv
  have key : ∀ lv, LvR e (some (.io 0 0)) T.size (vs.toList[0]) lv → ArgsR e (.slice T xs lv :: rest) vs.toList := by
    intro lv hlv
    refine ⟨by simpa using g1, fun i x v hx hv => ?_⟩
    cases i with
    | zero =>
      simp at hx; subst hx
      rw [List.getElem?_eq_getElem hl] at hv; cases hv
      simp only [VR]
      exact ⟨⟨a, len, cap, q1, q2, q3, q4, q5, q6⟩, hlv⟩
    | succ i => exact g2 (i + 1) x v (by simpa using hx) hv
  cases a with
  | none =>
    have hc : cap = 0 := q5 rfl
    have hx : xs = [] := List.eq_nil_of_length_eq_zero (by omega)
    have hlen : len = 0 := by omega
    exact h2 hx e vs w hw hH (key .nilv (by rw [q1, hc, hlen]; rfl))
  | some ad => exact h1 e vs w hw hH (key .nn ⟨ad, len, cap, q1⟩)
end Go.Vm

/- Loops over rows, told once. -/
set_option linter.unusedVariables false
namespace Go.Vm
/-- what a loop over a row comes to. -/
def foldK {α σ : Type} (step : Int → α → σ → (σ → Option Res) → Option Res) (E : σ → Option Res) : Nat → List α → σ → Option Res
  | _, [], s => E s
  | j, x :: r, s => step (j : Int) x s fun s' => foldK step E (j + 1) r s'
theorem wrap_next {j n : Nat} (h : j < n) (hn : n ≤ maxInt) : IntKind.i64.wrap ((j : Int) + 1) = ((j + 1 : Nat) : Int) := by
  simp only [maxInt] at hn
  rw [wrap_i64 (by omega) (by omega)]; omega
theorem fold_loop {α σ : Type} {F : Nat → Int → σ → Option Res} {xs : List α} {m : Int} {step : Int → α → σ → (σ → Option Res) → Option Res} {E : σ → Option Res} (hm : m = (xs.length : Int)) (hl : xs.length ≤ maxInt)
    (h : ∀ N i s, F (N + 1) i s = bif decide (i < m) then (at? xs i).bind fun x => step i x s fun s' => F N (IntKind.i64.wrap (i + 1)) s' else E s) :
    ∀ (q j : Nat) (s : σ), j + q = xs.length → F (q + 1) (j : Int) s = foldK step E j (xs.drop j) s
  | 0, j, s, hj => by
    rw [h, cond_ne (decide_eq_false (by omega)), List.drop_of_length_le (by omega)]
    rfl
  | q + 1, j, s, hj => by
    have hlt : j < xs.length := by omega
    rw [h, cond_eq (decide_eq_true (by omega)), at_some (List.getElem?_eq_getElem hlt), Option.bind_some, List.drop_eq_getElem_cons hlt, wrap_next hlt hl]
    have : (fun s' => F (q + 1) ((j + 1 : Nat) : Int) s') = fun s' => foldK step E (j + 1) (xs.drop (j + 1)) s' := funext fun s' => fold_loop hm hl h q (j + 1) s' (by omega)
    rw [this]
    rfl
/-- two rows of one length are compared. -/
theorem eq_loop {α : Type} [BEq α] [LawfulBEq α] {F : Nat → Int → Option Res} {xs ys : List α} {m : Int} {R E : Option Res} (hm : m = (xs.length : Int)) (hy : xs.length = ys.length) (hl : xs.length ≤ maxInt)
    (h : ∀ N i, F (N + 1) i = bif decide (i < m) then (at? xs i).bind fun x => (at? ys i).bind fun y => bif x != y then R else F N (IntKind.i64.wrap (i + 1)) else E) :
    ∀ (q j : Nat), j + q = xs.length → F (q + 1) (j : Int) = bif xs.drop j == ys.drop j then E else R
  | 0, j, hj => by
    rw [h, cond_ne (decide_eq_false (by omega)), List.drop_of_length_le (by omega), List.drop_of_length_le (by omega)]
    rfl
  | q + 1, j, hj => by
    have hlt : j < xs.length := by omega
    have hlt2 : j < ys.length := by omega
    rw [h, cond_eq (decide_eq_true (by omega)), at_some (List.getElem?_eq_getElem hlt), Option.bind_some, at_some (List.getElem?_eq_getElem hlt2), Option.bind_some, List.drop_eq_getElem_cons hlt, List.drop_eq_getElem_cons hlt2, wrap_next hlt hl, eq_loop hm hy hl h q (j + 1) (by omega)]
    show _ = bif (xs[j] == ys[j] && xs.drop (j + 1) == ys.drop (j + 1)) then E else R
    cases hx : xs[j] == ys[j] with
    | true => simp only [bne, hx, Bool.not_true, cond_false, Bool.true_and]
    | false => simp only [bne, hx, Bool.not_false, cond_true, Bool.false_and, cond_false]
/-- the first place at which something is so. -/
def idxP {α : Type} (p : α → Bool) : Nat → List α → Option Nat
  | _, [] => none
  | j, x :: r => bif p x then some j else idxP p (j + 1) r
theorem find_loop {α : Type} {F : Nat → Int → Option Res} {xs : List α} {m : Int} {p : α → Bool} {R : Int → Option Res} {E : Option Res} (hm : m = (xs.length : Int)) (hl : xs.length ≤ maxInt)
    (h : ∀ N i, F (N + 1) i = bif decide (i < m) then (at? xs i).bind fun x => bif p x then R i else F N (IntKind.i64.wrap (i + 1)) else E) :
    ∀ (q j : Nat), j + q = xs.length → F (q + 1) (j : Int) = match idxP p j (xs.drop j) with | some k => R (k : Int) | none => E
  | 0, j, hj => by
    rw [h, cond_ne (decide_eq_false (by omega)), List.drop_of_length_le (by omega)]
    rfl
  | q + 1, j, hj => by
    have hlt : j < xs.length := by omega
    rw [h, cond_eq (decide_eq_true (by omega)), at_some (List.getElem?_eq_getElem hlt), Option.bind_some, List.drop_eq_getElem_cons hlt, wrap_next hlt hl, find_loop hm hl h q (j + 1) (by omega)]
    simp only [idxP]
    cases p xs[j] <;> rfl
theorem idxP_any {α : Type} (p : α → Bool) : ∀ (xs : List α) (j : Nat), (idxP p j xs).isSome = xs.any p
  | [], _ => rfl
  | x :: r, j => by
    simp only [idxP, List.any_cons]
    cases p x with
    | true => rfl
    | false => simpa using idxP_any p r (j + 1)
theorem any_loop {α : Type} {F : Nat → Int → Option Res} {xs : List α} {m : Int} {p : α → Bool} {R : Option Res} {E : Option Res} (hm : m = (xs.length : Int)) (hl : xs.length ≤ maxInt)
    (h : ∀ N i, F (N + 1) i = bif decide (i < m) then (at? xs i).bind fun x => bif p x then R else F N (IntKind.i64.wrap (i + 1)) else E) :
    ∀ (q j : Nat), j + q = xs.length → F (q + 1) (j : Int) = bif (xs.drop j).any p then R else E := by
  intro q j hj
  rw [find_loop (R := fun _ => R) hm hl h q j hj, ← idxP_any p _ j]
  cases idxP p j (xs.drop j) <;> rfl
theorem pure_con {P : Program} {A : AbsR} (l : List (Ent P A)) {cfg : Cfg} {lf : Nat → Option LoopSum} {g : Nat} {f : List AV → Tr AV} (hm : P.follows .mixedOrders = true) (hn : ((P.funcs[g]?).map fun fn => fn.name == "runtime.NumGoroutine") = some false) (hb : funB P g = true)
    (hl : ∀ x ∈ funLoops P g, ∀ L, lf x.1 = some L → LoopOK (ntm P g) (fun fr H wr k => code P (cfE l) cfg lf (cfg.live g) x.2 (2 * x.1) fr H wr k) L)
    (h : ∀ args v, (f args).val = some v → okAVs args → ∀ S, body P (cfE l) cfg lf g args S some = some (v, [], S)) : Con P A g (pureC f) :=
  pureC_ok fun args v hv ha S => fun_call l hm hn hb hl (h args v hv ha S)
def lf0 : Nat → Option LoopSum := fun _ => none
theorem pure_con0 {P : Program} {A : AbsR} (l : List (Ent P A)) {cfg : Cfg} {g : Nat} {f : List AV → Tr AV} (hm : P.follows .mixedOrders = true) (hn : ((P.funcs[g]?).map fun fn => fn.name == "runtime.NumGoroutine") = some false) (hb : funB P g = true) (hl : lpos P g = [])
    (h : ∀ args v, (f args).val = some v → okAVs args → ∀ S, body P (cfE l) cfg lf0 g args S some = some (v, [], S)) : Con P A g (pureC f) :=
  pureC_ok fun args v hv ha S => fun_call l hm hn hb (no_loops hl) (h args v hv ha S)
end Go.Vm

/- Loops over two rows; loops that are counted. -/
set_option linter.unusedVariables false
namespace Go.Vm
def zipK {α β σ : Type} (step : α → β → σ → (σ → Option Res) → Option Res) (E : σ → Option Res) : List α → List β → σ → Option Res
  | x :: r, y :: t, s => step x y s fun s' => zipK step E r t s'
  | _, _, s => E s
theorem zip_loop {α β σ : Type} {F : Nat → Int → σ → Option Res} {xs : List α} {ys : List β} {m : Int} {step : α → β → σ → (σ → Option Res) → Option Res} {E : σ → Option Res} (hm : m = (xs.length : Int)) (hy : xs.length = ys.length) (hl : xs.length ≤ maxInt)
    (h : ∀ N i s, F (N + 1) i s = bif decide (i < m) then (at? xs i).bind fun x => (at? ys i).bind fun y => step x y s fun s' => F N (IntKind.i64.wrap (i + 1)) s' else E s) :
    ∀ (q j : Nat) (s : σ), j + q = xs.length → F (q + 1) (j : Int) s = zipK step E (xs.drop j) (ys.drop j) s
  | 0, j, s, hj => by
    rw [h, cond_ne (decide_eq_false (by omega)), List.drop_of_length_le (by omega)]
    rfl
  | q + 1, j, s, hj => by
    have hlt : j < xs.length := by omega
    have hlt2 : j < ys.length := by omega
    rw [h, cond_eq (decide_eq_true (by omega)), at_some (List.getElem?_eq_getElem hlt), Option.bind_some, at_some (List.getElem?_eq_getElem hlt2), Option.bind_some, List.drop_eq_getElem_cons hlt, List.drop_eq_getElem_cons hlt2, wrap_next hlt hl]
    have : (fun s' => F (q + 1) ((j + 1 : Nat) : Int) s') = fun s' => zipK step E (xs.drop (j + 1)) (ys.drop (j + 1)) s' := funext fun s' => zip_loop hm hy hl h q (j + 1) s' (by omega)
    rw [this]
    rfl
def iterK {σ : Type} (step : σ → (σ → Option Res) → Option Res) (E : σ → Option Res) : Nat → σ → Option Res
  | 0, s => E s
  | q + 1, s => step s fun s' => iterK step E q s'
theorem count_loop {σ : Type} {F : Nat → Int → σ → Option Res} {m : Int} {step : σ → (σ → Option Res) → Option Res} {E : σ → Option Res} (hl : m ≤ maxInt)
    (h : ∀ N i s, F (N + 1) i s = bif decide (i < m) then step s fun s' => F N (IntKind.i64.wrap (i + 1)) s' else E s) :
    ∀ (q j : Nat) (s : σ), ((j + q : Nat) : Int) = m → F (q + 1) (j : Int) s = iterK step E q s
  | 0, j, s, hj => by
    rw [h, cond_ne (decide_eq_false (by omega))]
    rfl
  | q + 1, j, s, hj => by
    rw [h, cond_eq (decide_eq_true (by omega)), wrap_next (n := m.toNat) (by omega) (by omega)]
    have : (fun s' => F (q + 1) ((j + 1 : Nat) : Int) s') = fun s' => iterK step E q s' := funext fun s' => count_loop hl h q (j + 1) s' (by omega)
    rw [this]
    rfl
/-- the like, where nothing is counted beyond what is there: a loop that ends at once when nothing is left. -/
theorem count_none {σ : Type} {F : Nat → Int → σ → Option Res} {m : Int} {step : σ → (σ → Option Res) → Option Res} {E : σ → Option Res}
    (h : ∀ N i s, F (N + 1) i s = bif decide (i < m) then step s fun s' => F N (IntKind.i64.wrap (i + 1)) s' else E s) (hm : m ≤ 0) (s : σ) : F 1 0 s = E s := by
  rw [h, cond_ne (decide_eq_false (by omega))]
end Go.Vm

/- Loops that go down; loops that stop. -/
set_option linter.unusedVariables false
namespace Go.Vm
theorem wrap_pred {j n : Nat} (h : j < n) (hn : n ≤ maxInt) : IntKind.i64.wrap ((j : Int) - 1) = (j : Int) - 1 := by
  simp only [maxInt] at hn
  rw [wrap_i64 (by omega) (by omega)]
/-- the last place at which something is so. -/
theorem down_loop {α : Type} {F : Nat → Int → Option Res} {xs : List α} {p : α → Bool} {R : α → Option Res} {E : Option Res} (hl : xs.length ≤ maxInt)
    (h : ∀ N i, F (N + 1) i = bif decide (i ≥ 0) then (at? xs i).bind fun x => bif p x then R x else F N (IntKind.i64.wrap (i - 1)) else E) :
    ∀ (q : Nat), q ≤ xs.length → F (q + 1) ((q : Int) - 1) = match (xs.take q).reverse.find? p with | some x => R x | none => E
  | 0, _ => by
    rw [h, cond_ne (decide_eq_false (by omega))]
    simp
  | q + 1, hq => by
    have hlt : q < xs.length := hq
    have e : ((q + 1 : Nat) : Int) - 1 = (q : Int) := by omega
    rw [e, h, cond_eq (decide_eq_true (by omega)), at_some (List.getElem?_eq_getElem hlt), Option.bind_some, wrap_pred hlt hl, down_loop hl h q (by omega), List.take_succ_eq_append_getElem hlt, List.reverse_append]
    show _ = match List.find? p (xs[q] :: (xs.take q).reverse) with | some x => R x | none => E
    rw [List.find?_cons]
    cases p xs[q] <;> rfl
theorem bind_twice {α : Type} (o : Option α) (f : α → Option Res → Option Res) (g : α → Option Res) : (o.bind fun x => f x (o.bind g)) = o.bind fun x => f x (g x) := by
  cases o <;> rfl
/-- how many steps forward. -/
def stepsP {α : Type} (p : Nat → α → Bool) : Nat → List α → Nat
  | _, [] => 0
  | j, x :: r => bif p j x then stepsP p (j + 1) r + 1 else 0
theorem while_loop {α : Type} {F : Nat → Int → Option Res} {xs : List α} {p : Nat → α → Bool} {E : Int → Option Res} (hl : xs.length ≤ maxInt)
    (h : ∀ N i, F (N + 1) i = bif decide (i < (xs.length : Int)) then (bif decide (0 ≤ i) && decide (i ≤ (xs.length : Int)) then (at? xs i).bind fun x => bif p i.toNat x then F N (IntKind.i64.wrap (i + 1)) else E i else none) else E i) :
    ∀ (q j : Nat), j + q = xs.length → F (q + 1) (j : Int) = E ((j + stepsP p j (xs.drop j) : Nat) : Int)
  | 0, j, hj => by
    rw [h, cond_ne (decide_eq_false (by omega)), List.drop_of_length_le (by omega)]
    rfl
  | q + 1, j, hj => by
    have hlt : j < xs.length := by omega
    rw [h, cond_eq (decide_eq_true (by omega)), decide_eq_true (show (0 : Int) ≤ (j : Int) by omega), decide_eq_true (show (j : Int) ≤ (xs.length : Int) by omega), Bool.true_and, cond_true, at_some (List.getElem?_eq_getElem hlt), Option.bind_some, List.drop_eq_getElem_cons hlt, wrap_next hlt hl, while_loop hl h q (j + 1) (by omega)]
    simp only [stepsP, Int.toNat_natCast]
    cases p j xs[j] with
    | true => simp only [cond_true]; congr 2; omega
    | false => rfl
end Go.Vm

/- Laws that store an element of a row of bytes of their own. -/
set_option linter.unusedVariables false
set_option linter.unusedSimpArgs false
namespace Go.Vm
open Go.RowKit (Below)
variable {K : Nat → Prop} {P : Program} {n : Nat} {A : AbsR} {e e0 : Env} {s : RS} {a a0 : Act} {w w0 : World} {o : Oper} {cf : CallK} {cfg : Cfg}

/-- what was there when the law began lies as it lay. -/
structure GL (e0 : Env) (w0 : World) (e : Env) (w : World) : Prop where
  os : w.os = w0.os
  tape : w.tape = w0.tape
  output : w.output = w0.output
  size : w0.heap.size ≤ w.heap.size
  blk : ∀ b, b < w0.heap.size → w.heap[b]? = w0.heap[b]? ∧ e.own b = none ∧ ∀ o, e.cl b o = e0.cl b o
theorem GL.grow {e' : Env} {w' : World} {wr : Wr} (h : GL e0 w0 e w) (g : Grow1 e w e' w' wr) : GL e0 w0 e' w' where
  os := g.os.trans h.os
  tape := g.tape.trans h.tape
  output := g.output.trans h.output
  size := Nat.le_trans h.size g.size
  blk := fun b hb => by
    obtain ⟨h1, h2, h3⟩ := h.blk b hb
    obtain ⟨g1, g2, g3⟩ := g.stay b (Nat.lt_of_lt_of_le hb h.size) (.inl h2)
    exact ⟨g1.trans h1, g2.trans h2, fun o => (g3 o).trans (h3 o)⟩
def CPostL (K : Nat → Prop) (n : Nat) (A : AbsR) (e0 : Env) (a0 : Act) (w0 : World) (ex : Ex) (fr : Fr) (H : Stack) (x : Exit) (a' : Act) (w' : World) : Prop :=
  exMatch ex x ∧ ∃ e', CR n A e' fr H a' w' ∧ GL e0 w0 e' w' ∧ Keep K a0 a'
abbrev Est := Nat → Option (List Oper → Fr → Stack → Wr → Kont → Option Res)
def codeL (P : Program) (cf : CallK) (cfg : Cfg) (lf : Nat → Option LoopSum) (live : Nat → Option (List Nat)) (est : Est) : Code → Nat → Fr → Stack → Wr → Kont → Option Res
  | .region id ops drawn, p, fr, H, wr, k => match est p with
    | some E => E ops.toList fr H wr k
    | none => code P cf cfg lf live (.region id ops drawn) p fr H wr k
  | .seq a b, p, fr, H, wr, k => codeL P cf cfg lf live est a (2 * p) fr H wr fun ex fr' H' wr' =>
    match ex with
    | .normal => codeL P cf cfg lf live est b (2 * p + 1) fr' H' wr' k
    | ex => k ex fr' H' wr'
  | .cond c a b, p, fr, H, wr, k => match c with
    | .tmp t => match fr t with
      | .bool x => bif x then codeL P cf cfg lf live est a (2 * p) fr H wr k else codeL P cf cfg lf live est b (2 * p + 1) fr H wr k
      | _ => none
    | _ => none
  | c, p, fr, H, wr, k => code P cf cfg lf live c p fr H wr k
def BodyL (K : Nat → Prop) (P : Program) (n : Nat) (A : AbsR) (e0 : Env) (a0 : Act) (w0 : World) (c : Code) (bodyC : Fr → Stack → Wr → Kont → Option Res) : Prop :=
  ∀ fr H wr (k : Kont) r, bodyC fr H wr k = some r → ∃ ex fr' H' wr', k ex fr' H' wr' = some r ∧ ∀ e a w, CR n A e fr H a w → GL e0 w0 e w → Keep K a0 a → c.wp P (CPostL K n A e0 a0 w0 ex fr' H') a w
theorem BodyOK.law {c : Code} {bodyC : Fr → Stack → Wr → Kont → Option Res} (h : BodyOK K P n A c bodyC) : BodyL K P n A e0 a0 w0 c bodyC := fun fr H wr k r hr => by
  obtain ⟨ex, fr', H', wr', h1, _, h3⟩ := h fr H wr k r hr
  refine ⟨ex, fr', H', wr', h1, fun e a w hC hG hK => wp_mono (h3 e a w hC) fun x a' w' hq => ?_⟩
  obtain ⟨hx, e1, g1, g2, g3, g4⟩ := hq
  exact ⟨hx, e1, g1, hG.grow g2, g4.trans hK⟩
/-- what code must show. -/
def CodeLOK (K : Nat → Prop) (P : Program) (cf : CallK) (cfg : Cfg) (lf : Nat → Option LoopSum) (live : Nat → Option (List Nat)) (est : Est) (n : Nat) (A : AbsR) (e0 : Env) (a0 : Act) (w0 : World) : Code → Nat → Prop
  | .region id ops dr, p => match est p with
    | some E => BodyL K P n A e0 a0 w0 (.region id ops dr) (E ops.toList)
    | none => CodeOK P cf cfg lf live n (.region id ops dr) p ∧ CodeK K (.region id ops dr)
  | .seq x y, p => CodeLOK K P cf cfg lf live est n A e0 a0 w0 x (2 * p) ∧ CodeLOK K P cf cfg lf live est n A e0 a0 w0 y (2 * p + 1)
  | .cond c x y, p => opdB n c = true ∧ CodeLOK K P cf cfg lf live est n A e0 a0 w0 x (2 * p) ∧ CodeLOK K P cf cfg lf live est n A e0 a0 w0 y (2 * p + 1)
  | c, p => CodeOK P cf cfg lf live n c p ∧ CodeK K c
theorem codeL_sim (hcf : CfOK P A cf) {lf : Nat → Option LoopSum} {live : Nat → Option (List Nat)} {est : Est} : ∀ (c : Code) (p : Nat), CodeLOK K P cf cfg lf live est n A e0 a0 w0 c p → BodyL K P n A e0 a0 w0 c (fun fr H wr k => codeL P cf cfg lf live est c p fr H wr k)
  | .region id ops dr, p, hc, fr, H, wr, k, r, h => by
    simp only [codeL] at h
    simp only [CodeLOK] at hc
    cases hE : est p with
    | some E => rw [hE] at h hc; exact hc fr H wr k r h
    | none => rw [hE] at h hc; exact (code_sim hcf _ p hc.1 hc.2).law fr H wr k r h
  | .seq x y, p, hc, fr, H, wr, k, r, h => by
    simp only [codeL] at h
    simp only [CodeLOK] at hc
    obtain ⟨ex, fr1, H1, wr1, h1, h3⟩ := codeL_sim hcf x (2 * p) hc.1 fr H wr _ r h
    cases ex with
    | normal =>
      obtain ⟨ex, fr2, H2, wr2, k1, k3⟩ := codeL_sim hcf y (2 * p + 1) hc.2 fr1 H1 wr1 k r h1
      refine ⟨ex, fr2, H2, wr2, k1, fun e a w hC hG hK => wp_seq (wp_mono (h3 e a w hC hG hK) fun x' a' w' hq => ?_)⟩
      obtain ⟨hx, e1, g1, g2, g3⟩ := hq
      cases x' <;> simp only [exMatch] at hx
      exact k3 e1 a' w' g1 g2 g3
    | exit i =>
      refine ⟨.exit i, fr1, H1, wr1, h1, fun e a w hC hG hK => wp_seq (wp_mono (h3 e a w hC hG hK) fun x' a' w' hq => ?_)⟩
      have hx := hq.1
      cases x' <;> simp only [exMatch] at hx
      exact hq
    | ret =>
      refine ⟨.ret, fr1, H1, wr1, h1, fun e a w hC hG hK => wp_seq (wp_mono (h3 e a w hC hG hK) fun x' a' w' hq => ?_)⟩
      have hx := hq.1
      cases x' <;> simp only [exMatch] at hx
      exact hq
  | .cond c x y, p, hc, fr, H, wr, k, r, h => by
    simp only [codeL] at h
    simp only [CodeLOK] at hc
    cases c with
    | tmp t =>
      simp only at h
      cases ht : fr t with
      | bool b =>
        rw [ht] at h
        simp only at h
        have hev : ∀ e a w, CR n A e fr H a w → a.eval (.tmp t) = .bool b := fun e a w hC => by
          have := hC.fr.val t (opdB_ok hc.1)
          rw [ht] at this
          simp only [VR] at this
          exact this
        rcases cond_some h with ⟨rfl, h⟩ | ⟨rfl, h⟩
        · obtain ⟨ex, fr1, H1, wr1, h1, h3⟩ := codeL_sim hcf x (2 * p) hc.2.1 fr H wr _ r h
          exact ⟨ex, fr1, H1, wr1, h1, fun e a w hC hG hK => wp_cond (hev e a w hC) (h3 e a w hC hG hK)⟩
        · obtain ⟨ex, fr1, H1, wr1, h1, h3⟩ := codeL_sim hcf y (2 * p + 1) hc.2.2 fr H wr _ r h
          exact ⟨ex, fr1, H1, wr1, h1, fun e a w hC hG hK => wp_cond (hev e a w hC) (h3 e a w hC hG hK)⟩
      | _ => rw [ht] at h; cases h
    | _ => cases h
  | .skip, p, hc, fr, H, wr, k, r, h => (code_sim hcf _ p hc.1 hc.2).law fr H wr k r h
  | .label _, p, hc, fr, H, wr, k, r, h => (code_sim hcf _ p hc.1 hc.2).law fr H wr k r h
  | .ret, p, hc, fr, H, wr, k, r, h => (code_sim hcf _ p hc.1 hc.2).law fr H wr k r h
  | .exit _, p, hc, fr, H, wr, k, r, h => (code_sim hcf _ p hc.1 hc.2).law fr H wr k r h
  | .block _ c, p, hc, fr, H, wr, k, r, h => (code_sim hcf _ p hc.1 hc.2).law fr H wr k r h
  | .scope c, p, hc, fr, H, wr, k, r, h => (code_sim hcf _ p hc.1 hc.2).law fr H wr k r h
  | .loop c, p, hc, fr, H, wr, k, r, h => (code_sim hcf _ p hc.1 hc.2).law fr H wr k r h
  | .goto _, p, hc, fr, H, wr, k, r, h => (code_sim hcf _ p hc.1 hc.2).law fr H wr k r h
  | .rangeFunc .., p, hc, fr, H, wr, k, r, h => (code_sim hcf _ p hc.1 hc.2).law fr H wr k r h
  | .refuse _, p, hc, fr, H, wr, k, r, h => (code_sim hcf _ p hc.1 hc.2).law fr H wr k r h

/-! ### The store -/
def keepI : AV → AV
  | .bool b => .bool b
  | .int k n => .int k n
  | .str s => .str s
  | .ptr l i o => .ptr l i o
  | .nilp => .nilp
  | _ => .undef
def dropOb : Ob → Ob
  | .cells cs => .cells (mapN keepI cs)
  | o => o
def dropH : Stack → Stack
  | [] => []
  | l :: S => mapN dropOb l :: dropH S
theorem keepI_VR {e e' : Env} {p p' : Option Pl} {q q' : Option (Nat → Pl)} (hr : RhoLe e e') : ∀ {x : AV} {v : Value}, VR e p q x v → VR e' p' q' (keepI x) v
  | .undef, _, _ => by simp [keepI, VR]
  | .bool _, _, h => by simpa [keepI, VR] using h
  | .int _ _, _, h => by simpa [keepI, VR] using h
  | .str _, _, h => by simpa [keepI, VR] using h
  | .slice _ _ _, _, _ => by simp [keepI, VR]
  | .ptr _ _ _, _, h => by
    simp only [keepI, VR] at h ⊢
    obtain ⟨b, h1, h2⟩ := h
    exact ⟨b, hr _ _ _ h1, h2⟩
  | .nilp, _, h => by simpa [keepI, VR] using h
  | .cptr _ _, _, _ => by simp [keepI, VR]
  | .func _ _ _, _, _ => by simp [keepI, VR]
  | .nilf, _, _ => by simp [keepI, VR]
  | .agg _, _, _ => by simp [keepI, VR]
  | .tuple _, _, _ => by simp [keepI, VR]
theorem getH_drop : ∀ (H : Stack) (l i : Nat), getH (dropH H) l i = (getH H l i).map dropOb
  | [], l, i => by simp [dropH, getH]
  | a :: S, 0, i => by simp only [dropH, getH, nth_eq, mapN_eq, List.getElem?_map]
  | a :: S, l + 1, i => by simp only [dropH, getH]; exact getH_drop S l i
theorem Par.drop : ∀ {R : Rho} {H : Stack}, Par R H → Par R (dropH H)
  | [], [], _ => trivial
  | r :: R, l :: S, h => by simp only [Par, dropH, mapN_eq, List.length_map] at h ⊢; exact ⟨h.1, Par.drop h.2⟩
  | [], _ :: _, h => h.elim
  | _ :: _, [], h => h.elim
/-- the frame behind a store: what is left is known. -/
def estFr (fr0 fr : Fr) (ks : List Nat) (sl tP : Nat) (v : AV) : Fr := fun t => bif Nat.beq t tP then .undef else bif Nat.beq t sl then v else bif memN t ks then strip (fr0 t) else keepI (fr t)
def estE (P : Program) (cf : CallK) (cfg : Cfg) (n : Nat) (fr0 : Fr) (ks : List Nat) (pre ops : List Oper) (tS tI tV tP : Nat) : Fr → Stack → Wr → Kont → Option Res := fun fr H wr k =>
  opers P cf cfg false ops pre { fr, als := noAls, H, wr := [], lds := noLds } fun s =>
    match s.als tS, s.fr tI, s.fr tV with
    | some (.slot sl), .int _ i, .int .u8 v => match s.fr sl with
      | .slice (.int .u8) xs .mine => bif (decide (0 ≤ i) && decide (i < (xs.length : Int))) && Nat.blt sl n then
          k .normal (estFr fr0 s.fr ks sl tP (.slice (.int .u8) (setAt xs i.toNat v) .mine)) (dropH s.H) wr
        else none
      | _ => none
    | _, _, _ => none
theorem opers_steps' (hcf : CfOK P A cf) {dr : Bool} {ops : List Oper} {k : RS → Option Res} {r : Res} : ∀ (rest : List Oper) (i : Nat) (s : RS), (∀ j x, rest[j]? = some x → ops[i + j]? = some x) → opers P cf cfg dr ops rest s k = some r → ∃ s', steps P cf cfg dr ops (List.range' i rest.length) s = some s' ∧ k s' = some r
  | [], i, s, hr, h => ⟨s, rfl, h⟩
  | o :: rest, i, s, hr, h => by
    have h0 : ops[i]? = some o := by simpa using hr 0 o (by simp)
    have hr' : ∀ j x, rest[j]? = some x → ops[i + 1 + j]? = some x := fun j x hx => by have := hr (j + 1) x (by simpa using hx); simpa [Nat.add_assoc, Nat.add_comm 1 j] using this
    simp only [opers] at h
    simp only [List.length_cons, List.range'_succ, steps, h0]
    rcases guarded_wanted h with ⟨hw, h⟩ | ⟨hw, h⟩
    · obtain ⟨s1, v, l, h1, h2⟩ := run_run1 hcf h
      obtain ⟨s', k1, k2⟩ := opers_steps' hcf rest (i + 1) _ hr' h2
      exact ⟨s', by simp only [step1, hw, h1]; exact k1, k2⟩
    · obtain ⟨s', k1, k2⟩ := opers_steps' hcf rest (i + 1) _ hr' h
      exact ⟨s', by simp only [step1, hw]; exact k1, k2⟩
def thenQ (P : Program) (ops : Array Oper) (Q : Exit → Act → World → Prop) (l2 : List Nat) : Exit → Act → World → Prop
  | .normal, a, w => wpOps P ops Q l2 a w
  | .exit i, a, w => Q (.exit i) a w
  | .goto i, a, w => Q (.goto i) a w
  | .ret, a, w => Q .ret a w
  | .panic c, a, w => Q (.panic c) a w
  | .outgrown, a, w => Q .outgrown a w
theorem upon_thenQ {ops : Array Oper} {Q : Exit → Act → World → Prop} {l2 : List Nat} {Kn : Act → World → Prop} {r : Result Next} (h : o.upon P a Kn (thenQ P ops Q l2) r) : o.upon P a Kn Q r := by
  cases r with
  | ok nx w' =>
    cases nx with
    | enter f args => exact Calls.mono h fun e w'' he => by cases e <;> exact he
    | _ => exact h
  | halt x w' => cases x <;> exact h
theorem wpOps_app {ops : Array Oper} {Q : Exit → Act → World → Prop} {l2 : List Nat} : ∀ (l1 : List Nat) (a : Act) (w : World), wpOps P ops (thenQ P ops Q l2) l1 a w → wpOps P ops Q (l1 ++ l2) a w
  | [], a, w, h => h
  | i :: l1, a, w, h => by
    rw [List.cons_append]
    simp only [wpOps] at h ⊢
    cases ho : ops[i]? with
    | none => rw [ho] at h; exact wpOps_app l1 a w h
    | some o =>
      rw [ho] at h
      simp only at h ⊢
      split at h
      · rename_i hw
        rw [if_pos hw]
        rcases h with h | h
        · left
          have h' : o.wp P a w (wpOps P ops (thenQ P ops Q l2) l1) Q := upon_thenQ h
          exact Oper.wp_mono (fun a w hh => wpOps_app l1 a w hh) h'
        · exact .inr h
      · rename_i hw
        rw [if_neg hw]
        exact wpOps_app l1 _ w h
/-- one byte of a row is another one. -/
theorem est_core {fr0 : Fr} {ks : List Nat} {tS tI tP sl : Nat} {i v : Int} {ki : IntKind} {xs : List Int} (hR : RR n A e s a w) (hG : GL e0 w0 e w) (hK : Keep (fun t => t ∈ ks) a0 a) (hw0 : WOK e0 w0) (hr0 : ∀ l i, rhoAt e0.rho l i = none) (hfr0 : FRel n e0 fr0 a0)
    (hsl : sl < n) (hI : VR e none none (.int ki i) (Act.at a tI)) (hS : Act.at a tS = Act.at a sl) (hx : s.fr sl = .slice (.int .u8) xs .mine) (h0 : 0 ≤ i) (h1 : i < (xs.length : Int)) (hv : IntKind.u8.has v) :
    ∃ b len cap c ty fz, Act.at a sl = .slice (some ⟨b, 0, none⟩) len cap ∧ xs.length = len ∧ i.toNat < c.size ∧ w.heap[b]? = some (.cells c ty fz) ∧ (fz.1 = fz.2 ∨ c.size ≤ fz.1) ∧
      ∀ (w2 : World) (u : Value), w2.heap[b]? = some (.cells (putL c.toList i.toNat [.int .u8 v]).toArray ty fz) → (∀ k, k ≠ b → w2.heap[k]? = w.heap[k]?) → w2.heap.size = w.heap.size → w2.os = w.os → w2.tape = w.tape → w2.output = w.output → tP ∉ ks → tP < n →
        ∃ e2, CR n A e2 (estFr fr0 s.fr ks sl tP (.slice (.int .u8) (setAt xs i.toNat v) .mine)) (dropH s.H) (a.put (some tP) u) w2 ∧ GL e0 w0 e2 w2 ∧ Keep (fun t => t ∈ ks) a0 (a.put (some tP) u) := by
  have hvx := hR.fr.val sl hsl
  rw [hx] at hvx
  simp only [VR] at hvx
  obtain ⟨⟨ad, len, cap, q1, q2, q3, q4, q5, q6⟩, b, len', cap', m, pl, p1, p2, p3, p4, p5⟩ := hvx
  rw [q1] at p1
  cases p1
  cases p2
  obtain ⟨c, ty, lo, hi, m1, m2, m3⟩ := hR.wok.free b _ _ p3
  have hil : i.toNat < len := by omega
  have hic : i.toNat < c.size := by
    rw [m2]
    have : cap ≤ cap * (Ty.int IntKind.u8).size := by simp [Ty.size]
    omega
  refine ⟨b, len, cap, c, ty, (lo, hi), q1, q2, hic, m1, by rw [m2]; exact m3, fun w2 u k1 k2 k3 k4 k5 k6 k7 k8 => ?_⟩
  have hput : ∀ j, (putL c.toList i.toNat [.int .u8 v])[j]? = if j = i.toNat then some (.int .u8 v) else c.toList[j]? := by
    intro j
    rw [putL_get _ _ _ _ (by simp; omega)]
    simp only [List.length_cons, List.length_nil]
    by_cases hj : j = i.toNat
    · subst hj; rw [if_pos (by omega), if_pos rfl]; simp
    · rw [if_neg (by omega), if_neg hj]
  have hbb : ∀ l i b', rhoAt e.rho l i = some b' → b' ≠ b := by
    intro l i b' hb' he
    obtain ⟨m', hm'⟩ := hR.hr.noown hb'
    rw [he, p3] at hm'
    simp at hm'
  let e2 : Env := { rho := e.rho, own := e.own, cl := fun b' o => if b' = b ∧ o = i.toNat then some (.int .u8 v) else e.cl b' o }
  have hcl0 : ClLe e0.cl e2.cl := by
    intro b' o z hz
    have hlt : b' < w0.heap.size := by
      have := hw0.holds b' o z hz
      simp only [World.cell?] at this
      rcases Nat.lt_or_ge b' w0.heap.size with h | h
      · exact h
      · rw [Array.getElem?_eq_none h] at this; simp at this
    obtain ⟨g1, g2, g3⟩ := hG.blk b' hlt
    have hne : b' ≠ b := by intro he; rw [he, p3] at g2; cases g2
    show (if b' = b ∧ o = i.toNat then some (.int .u8 v) else e.cl b' o) = some z
    rw [if_neg (fun hh => hne hh.1), g3]
    exact hz
  have hr2 : RhoLe e e2 := fun _ _ _ h => h
  refine ⟨e2, ⟨⟨fun b' o z hz => ?_, fun b' p k hp => ?_⟩, ⟨hR.hr.par.drop, fun l' i' x hgx => ?_⟩, ⟨by simp [Act.put, hR.fr.size], fun t ht => ?_⟩⟩, ⟨k4.trans hG.os, k5.trans hG.tape, k6.trans hG.output, by rw [k3]; exact hG.size, fun b' hb' => ?_⟩, (Keep.put a u (fun t ht => by cases ht; exact k7)).trans hK⟩
  · have hz : (if b' = b ∧ o = i.toNat then some (Value.int .u8 v) else e.cl b' o) = some z := hz
    by_cases hb : b' = b
    · subst hb
      simp only [World.cell?, k1]
      by_cases ho : o = i.toNat
      · subst ho
        rw [if_pos ⟨rfl, rfl⟩] at hz
        have := hput i.toNat
        rw [if_pos rfl] at this
        simpa [this] using hz
      · rw [if_neg (fun hh => ho hh.2)] at hz
        have h3 := hR.wok.holds b' o z hz
        simp only [World.cell?, m1] at h3
        have := hput o
        rw [if_neg ho] at this
        simp [this]
        simpa using h3
    · rw [if_neg (fun hh => hb hh.1)] at hz
      rw [cell_of_heap (k2 b' hb)]
      exact hR.wok.holds b' o z hz
  · obtain ⟨c', ty', lo', hi', g1, g2, g3⟩ := hR.wok.free b' p k hp
    by_cases hb : b' = b
    · subst hb
      rw [m1] at g1
      cases g1
      exact ⟨_, _, lo, hi, k1, by simp [putL_length]; exact g2, g3⟩
    · exact ⟨c', ty', lo', hi', by rw [k2 b' hb]; exact g1, g2, g3⟩
  · rw [getH_drop] at hgx
    cases hg : getH s.H l' i' with
    | none => rw [hg] at hgx; cases hgx
    | some x0 =>
      rw [hg] at hgx
      simp only [Option.map_some, Option.some.injEq] at hgx
      subst hgx
      obtain ⟨b', hb', c', ty', fz', g1, g2, g3, g4⟩ := hR.hr.ob l' i' x0 hg
      have hne := hbb l' i' b' hb'
      refine ⟨b', hb', c', ty', fz', by rw [k2 b' hne]; exact g1, g2, fun o => ?_, ?_⟩
      · show (if b' = b ∧ o = i.toNat then some (Value.int .u8 v) else e.cl b' o) = none
        rw [if_neg (fun hh => hne hh.1)]; exact g3 o
      · cases x0 with
        | abs _ _ => exact g4
        | cells cs =>
          simp only [dropOb]
          refine ⟨by rw [mapN_eq, List.length_map]; exact g4.1, fun o av u' h1 h2 => ?_⟩
          rw [mapN_eq, List.getElem?_map] at h1
          cases hc : cs[o]? with
          | none => rw [hc] at h1; cases h1
          | some av0 =>
            rw [hc] at h1
            simp only [Option.map_some, Option.some.injEq] at h1
            subst h1
            exact keepI_VR (e := e.dr l') (e' := e2.dr l') (fun _ _ _ h => h) (g4.2 o av0 u' hc h2)
  · have hsz : tP < a.tmps.size := by rw [hR.fr.size]; exact k8
    rw [Act.at_put a tP t u hsz]
    unfold estFr
    by_cases htP : t = tP
    · rw [(beq_iff t tP).2 htP, cond_true]; simp [VR]
    · rw [beq_false.2 htP, cond_false, if_neg htP]
      by_cases hts : t = sl
      · subst hts
        rw [(beq_iff t t).2 rfl, cond_true, q1]
        simp only [VR]
        refine ⟨⟨_, len, cap, rfl, by rw [setAt_eq, List.length_set]; exact q2, q3, q4, by simp, fun j x hj => ?_⟩, b, len, cap, m, _, rfl, rfl, p3, p4, fun o ho => ?_⟩
        · rw [setAt_eq, List.getElem?_set] at hj
          by_cases hji : i.toNat = j
          · rw [if_pos hji] at hj
            rw [if_pos (by omega)] at hj
            cases hj
            refine ⟨b, 0, [.int .u8 v], rfl, ⟨rfl, hv⟩, fun j' u' hu => ?_⟩
            cases j' with
            | zero =>
              simp at hu; subst hu
              show (if b = b ∧ 0 + (j * (Ty.int IntKind.u8).size + 0) = i.toNat then some (Value.int .u8 v) else _) = _
              rw [if_pos ⟨rfl, by simp [Ty.size]; omega⟩]
            | succ j' => simp at hu
          · rw [if_neg hji] at hj
            obtain ⟨b', off, es, e1, e2', e3⟩ := q6 j x hj
            cases e1
            refine ⟨b, 0, es, rfl, ⟨e2'.1, e2'.2⟩, fun j' u' hu => ?_⟩
            show (if b = b ∧ 0 + (j * (Ty.int IntKind.u8).size + j') = i.toNat then some (Value.int .u8 v) else e.cl b _) = _
            have hj' : j' = 0 := by
              have h1 := e2'.1
              rw [h1] at hu
              cases j' with
              | zero => rfl
              | succ j' => simp at hu
            rw [if_neg (fun hh => hji (by have := hh.2; rw [hj'] at this; simp [Ty.size] at this; omega))]
            exact e3 j' u' hu
        · show (if b = b ∧ o = i.toNat then some (Value.int .u8 v) else e.cl b o) = none
          have : len * (Ty.int IntKind.u8).size = len := by simp [Ty.size]
          rw [if_neg (fun hh => by have := hh.2; omega)]
          exact p5 o ho
      · rw [beq_false.2 hts, cond_false]
        cases hm : memN t ks with
        | true =>
          rw [cond_true]
          have hin : t ∈ ks := (memN_iff t ks).1 hm
          rw [hK.slot t hin]
          exact VR.strip_to (e := e0) (e' := e2) (fun l i b hb => by rw [hr0] at hb; cases hb) hcl0 (hfr0.val t ht)
        | false =>
          rw [cond_false]
          exact keepI_VR hr2 (hR.fr.val t ht)
  · obtain ⟨g1, g2, g3⟩ := hG.blk b' hb'
    have hne : b' ≠ b := by intro he; rw [he, p3] at g2; cases g2
    refine ⟨(k2 b' hne).trans g1, g2, fun o => ?_⟩
    show (if b' = b ∧ o = i.toNat then some (Value.int .u8 v) else e.cl b' o) = _
    rw [if_neg (fun hh => hne hh.1)]
    exact g3 o
theorem est_ok (hcf : CfOK P A cf) {fr0 : Fr} {ks : List Nat} {pre : List Oper} {ops : Array Oper} {oA oB : Oper} {id tS tI tV tP : Nat} {xt et : TypeId} (hops : ops.toList = pre ++ [oA, oB]) (hb : opsB n ops.toList = true) (hK : ∀ o ∈ ops.toList, ∀ d, o.dst = some d → d ∉ ks)
    (hA : oA.op = .indexAddr xt (.tmp tS) (.tmp tI)) (hA1 : oA.dst = some tP) (hA2 : oA.guard = none) (hB : oB.op = .store et (.tmp tP) (.tmp tV)) (hB1 : oB.dst = none) (hB2 : oB.guard = none) (hne : tV ≠ tP) (hxt : P.underlying xt = some (.slice et)) (het : okT P et = true) (hsz : sizeB P et = 1)
    (hw0 : WOK e0 w0) (hr0 : ∀ l i, rhoAt e0.rho l i = none) (hfr0 : FRel n e0 fr0 a0) :
    BodyL (fun t => t ∈ ks) P n A e0 a0 w0 (.region id ops false) (estE P cf cfg n fr0 ks pre ops.toList tS tI tV tP) := by
  intro fr H wr k r hr
  unfold estE at hr
  obtain ⟨s, h1, h2⟩ := opers_steps' hcf pre 0 _ (fun j x hx => by
    rw [hops, Nat.zero_add]
    have := (List.getElem?_eq_some_iff.1 hx).1
    rw [List.getElem?_append_left this]; exact hx) hr
  split at h2
  · rename_i sl ki i v hals hi hv
    split at h2
    · rename_i xs hx
      obtain ⟨hc, h3⟩ := cond_none h2
      simp only [Bool.and_eq_true, decide_eq_true_eq, blt_iff] at hc
      obtain ⟨⟨c1, c2⟩, c3⟩ := hc
      refine ⟨.normal, _, _, _, h3, fun e a w hC hG hKp => wp_region ?_⟩
      have hsize : ops.size = pre.length + 2 := by have := congrArg List.length hops; simpa using this
      have hrange : List.range ops.size = List.range' 0 pre.length ++ [pre.length, pre.length + 1] := by
        rw [hsize, List.range_eq_range', List.range'_append_1.symm, Nat.zero_add]
        rfl
      rw [hrange]
      refine wpOps_app _ a w (steps_sim (K := fun t => t ∈ ks) hcf hb hK _ e _ a w s ⟨hC.wok, hC.hr, hC.fr, fun t src _ hs => by simp [noAls] at hs⟩ h1 _ fun a1 w1 hP => ?_)
      obtain ⟨e1, hR, hGr, hRh, hKe⟩ := hP
      have hG1 := hG.grow hGr.one
      have hK1 := hKe.trans hKp
      have gA : ops[pre.length]? = some oA := by
        have : ops.toList[pre.length]? = some oA := by rw [hops]; simp
        simpa using this
      have gB : ops[pre.length + 1]? = some oB := by
        have : ops.toList[pre.length + 1]? = some oB := by rw [hops, List.getElem?_append_right (by omega)]; simp
        simpa using this
      have oA' := opsB_get hb (show ops.toList[pre.length]? = some oA by simpa using gA)
      have oB' := opsB_get hb (show ops.toList[pre.length + 1]? = some oB by simpa using gB)
      have bA := oA'.1
      rw [hA] at bA
      simp only [opB, Bool.and_eq_true] at bA
      have bB := oB'.1
      rw [hB] at bB
      simp only [opB, Bool.and_eq_true] at bB
      have ltS : tS < n := opdB_ok bA.1
      have ltI : tI < n := opdB_ok bA.2
      have ltV : tV < n := opdB_ok bB.2
      have ltP : tP < n := opdB_ok bB.1
      have hnP : tP ∉ ks := hK oA (by rw [hops]; simp) tP hA1
      have hI0 : VR e1 none none (.int ki i) (Act.at a1 tI) := by
        have := hR.fr.val tI ltI
        rw [hi] at this
        simpa only [VR] using this
      have hV0 := hR.fr.val tV ltV
      rw [hv] at hV0
      simp only [VR] at hV0
      obtain ⟨hslt, hSe⟩ := hR.als tS _ ltS hals
      obtain ⟨b, len, cap, c, ty, fz, g1, g2, g3, g4, g5, g6⟩ := est_core (tP := tP) hR hG1 hK1 hw0 hr0 hfr0 c3 hI0 hSe hx c1 c2 hV0.2
      have hI1 := hI0
      simp only [VR] at hI1
      obtain ⟨d, hd⟩ := okT_iff het
      simp only [wpOps, thenQ]
      rw [gA]
      simp only
      rw [if_pos (by unfold Region.wanted; rw [hA2])]
      left
      have runA : (execOp a1.eval oA).run P w1 = .ok (.value (.pointer (some ⟨b, i.toNat, none⟩))) w1 := by
        refine exec_v (S := Instr.indexAt xt (a1.eval (.tmp tS)) (a1.eval (.tmp tI))) (by unfold execOp; rw [hA]) ?_
        rw [Act.at_eval, Act.at_eval, hSe, g1, hI1.1, run_indexAt_slice w1 xt _ _ _ _ _ (by rw [elem_of hxt]; exact hxt), elem_of hxt, if_pos ⟨c1, by omega⟩, sizeOf_run w1 hd]
        simp only [Result.andThen_ok, Addr.add_eq, hsz, Nat.zero_add, Nat.mul_one]
      unfold Oper.wp
      rw [runA, Oper.upon_value, hA1]
      rw [gB]
      simp only
      rw [if_pos (by unfold Region.wanted; rw [hB2])]
      left
      obtain ⟨w2, r1, r2, r3, r4, r5, r6, r7⟩ := storeCells_run (P := P) (b := b) (o0 := i.toNat) (ty := ty) (lo := fz.1) (hi := fz.2) [.int .u8 v] 0 c w1 g4 (by simp; omega) (fun k hk hh => by rcases g5 with g5 | g5 <;> omega) (by simp [Value.oneCell'])
      have hatP : Act.at (a1.put (some tP) (.pointer (some ⟨b, i.toNat, none⟩))) tP = .pointer (some ⟨b, i.toNat, none⟩) := by
        rw [Act.at_put a1 tP tP _ (by rw [hR.fr.size]; exact ltP), if_pos rfl]
      have hatV : Act.at (a1.put (some tP) (.pointer (some ⟨b, i.toNat, none⟩))) tV = .int .u8 v := by
        rw [Act.at_put a1 tP tV _ (by rw [hR.fr.size]; exact ltP), if_neg hne]
        exact hV0.1
      have runB : (execOp (a1.put (some tP) (.pointer (some ⟨b, i.toNat, none⟩))).eval oB).run P w1 = .ok .skip w2 := by
        refine exec_u (S := Instr.storeAt et ((a1.put (some tP) (.pointer (some ⟨b, i.toNat, none⟩))).eval (.tmp tP)) ((a1.put (some tP) (.pointer (some ⟨b, i.toNat, none⟩))).eval (.tmp tV))) (by unfold execOp; rw [hB]) ?_
        rw [Act.at_eval, Act.at_eval, hatP, hatV]
        have hce : (Value.int .u8 v).cells.size = sizeB P et := by rw [hsz]; rfl
        have hcl : (Value.int .u8 v).cells.toList = [.int .u8 v] := rfl
        simp only [Instr.storeAt, Instr.sureAddr, Sem.run_bind, Sem.run_pure, Result.andThen_ok, storeVar, sizeOf_run w1 hd, if_neg (show ¬ (Value.int .u8 v).cells.size ≠ sizeB P et by rw [hce]; simp), hcl, r1]
      rw [runB, Oper.upon_skip, hB1]
      rw [Nat.add_zero] at r2
      obtain ⟨e2, k1, k2, k3⟩ := g6 w2 (.pointer (some ⟨b, i.toNat, none⟩)) (by rw [r2]) r3 r4 r5 r6 r7 hnP ltP
      exact ⟨trivial, e2, k1, k2, k3⟩
    · cases h2
  · cases h2

def estAt (P : Program) (cf : CallK) (cfg : Cfg) (n : Nat) (fr0 : Fr) (ks : List Nat) (q tS tI tV tP : Nat) : List Oper → Fr → Stack → Wr → Kont → Option Res := fun ops => estE P cf cfg n fr0 ks (tkN q ops) ops tS tI tV tP
def guardNone (o : Oper) : Bool := match o.guard with | none => true | some _ => false
def dstIs (o : Oper) (t : Nat) : Bool := match o.dst with | some d => Nat.beq d t | none => false
def dstNone (o : Oper) : Bool := match o.dst with | some _ => false | none => true
def noDst (ks : List Nat) : List Oper → Bool
  | [] => true
  | o :: r => (match o.dst with | some d => !memN d ks | none => true) && noDst ks r
theorem noDst_ok {ks : List Nat} : ∀ {l : List Oper}, noDst ks l = true → ∀ o ∈ l, ∀ d, o.dst = some d → d ∉ ks
  | [], _, o, ho => by cases ho
  | x :: r, h, o, ho => fun d hd => by
    simp only [noDst, Bool.and_eq_true] at h
    rcases List.mem_cons.1 ho with rfl | ho
    · have h1 := h.1
      rw [hd] at h1
      exact memN_false h1
    · exact noDst_ok h.2 o ho d hd
def isA (oA : Oper) (xt tS tI : Nat) : Bool := match oA.op with | .indexAddr x (.tmp a) (.tmp b) => Nat.beq x xt && (Nat.beq a tS && Nat.beq b tI) | _ => false
def isB (oB : Oper) (et tP tV : Nat) : Bool := match oB.op with | .store x (.tmp a) (.tmp b) => Nat.beq x et && (Nat.beq a tP && Nat.beq b tV) | _ => false
def shapeB (P : Program) (n : Nat) (ks : List Nat) (ops : List Oper) (dr : Bool) (xt et q tS tI tV tP : Nat) : Bool :=
  (!dr && (opsB n ops && (noDst ks ops && Nat.beq (lenN ops) (q + 2)))) && (match nth ops q, nth ops (q + 1) with
    | some oA, some oB => (isA oA xt tS tI && (dstIs oA tP && guardNone oA)) && (isB oB et tP tV && (dstNone oB && guardNone oB))
    | _, _ => false) && (!Nat.beq tV tP && ((match P.underlying xt with | some (.slice e) => Nat.beq e et | _ => false) && (okT P et && Nat.beq (sizeB P et) 1)))
theorem estAt_ok (hcf : CfOK P A cf) {fr0 : Fr} {ks : List Nat} {id xt et q tS tI tV tP : Nat} {ops : Array Oper} {dr : Bool} (h : shapeB P n ks ops.toList dr xt et q tS tI tV tP = true) (hw0 : WOK e0 w0) (hr0 : ∀ l i, rhoAt e0.rho l i = none) (hfr0 : FRel n e0 fr0 a0) :
    BodyL (fun t => t ∈ ks) P n A e0 a0 w0 (.region id ops dr) (estAt P cf cfg n fr0 ks q tS tI tV tP ops.toList) := by
  unfold shapeB at h
  simp only [Bool.and_eq_true, Bool.not_eq_true'] at h
  obtain ⟨⟨⟨h1, h2, h3, h4⟩, h5⟩, h6, h7, h8, h9⟩ := h
  subst h1
  have hlen : ops.toList.length = q + 2 := by rw [← lenN_eq]; exact (beq_iff _ _).1 h4
  rw [nth_eq, nth_eq] at h5
  split at h5
  · rename_i oA oB gA gB
    simp only [Bool.and_eq_true] at h5
    obtain ⟨⟨a1, a2, a3⟩, b1, b2, b3⟩ := h5
    have kA : oA.op = .indexAddr xt (.tmp tS) (.tmp tI) := by
      unfold isA at a1
      split at a1
      · rename_i x a b ho
        simp only [Bool.and_eq_true, beq_iff] at a1
        obtain ⟨rfl, rfl, rfl⟩ := a1
        exact ho
      · cases a1
    have kB : oB.op = .store et (.tmp tP) (.tmp tV) := by
      unfold isB at b1
      split at b1
      · rename_i x a b ho
        simp only [Bool.and_eq_true, beq_iff] at b1
        obtain ⟨rfl, rfl, rfl⟩ := b1
        exact ho
      · cases b1
    have dA : oA.dst = some tP := by
      unfold dstIs at a2
      cases hd : oA.dst with
      | none => rw [hd] at a2; cases a2
      | some d => rw [hd] at a2; rw [(beq_iff _ _).1 a2]
    have gAn : oA.guard = none := by unfold guardNone at a3; cases hd : oA.guard with
      | none => rfl
      | some d => rw [hd] at a3; cases a3
    have dB : oB.dst = none := by unfold dstNone at b2; cases hd : oB.dst with
      | none => rfl
      | some d => rw [hd] at b2; cases b2
    have gBn : oB.guard = none := by unfold guardNone at b3; cases hd : oB.guard with
      | none => rfl
      | some d => rw [hd] at b3; cases b3
    have hxt : P.underlying xt = some (.slice et) := by
      split at h7
      · rename_i e' hu; rw [hu, (beq_iff _ _).1 h7]
      · cases h7
    have hops : ops.toList = tkN q ops.toList ++ [oA, oB] := by
      rw [tkN_eq]
      have e1 : ops.toList.drop q = [oA, oB] := by
        refine List.ext_getElem? fun j => ?_
        rw [List.getElem?_drop]
        match j with
        | 0 => simpa using gA
        | 1 => simpa using gB
        | j + 2 => rw [List.getElem?_eq_none (by omega)]; simp
      rw [← e1, List.take_append_drop]
    exact est_ok (pre := tkN q ops.toList) hcf hops h2 (noDst_ok h3) kA dA gAn kB dB gBn (beq_false.1 h6) hxt h8 ((beq_iff _ _).1 h9) hw0 hr0 hfr0
  · cases h5

/-! ### The law -/
def bodyL (P : Program) (cf : CallK) (cfg : Cfg) (lf : Nat → Option LoopSum) (est : Est) (g : Nat) (args : List AV) : Option Res :=
  match P.funcs[g]? with
  | some fn => match fn.body with
    | some c => bif Nat.ble (lenN args) fn.ntmps then
        codeL P cf cfg lf (cfg.live g) est c 1 (nthD (up.ups args)) [[]] [] fun ex fr H wr =>
        match ex with
        | .exit _ => none
        | _ => match resVals P fr H fn.results.toList with
          | some vs => some (strip (resOf vs), [], [])
          | none => none
      else none
    | none => none
  | none => none
/-- the same code, but for the places that stores take. -/
def codeLB (P : Program) (n : Nat) (ps ks : List Nat) : Code → Nat → Bool
  | .region _ ops dr, p => memN p ps || (opsB n ops.toList && (!dr || drawB P ops.toList) && ops.toList.all fun o => match o.dst with | some d => !memN d ks | none => true)
  | .seq x y, p => codeLB P n ps ks x (2 * p) && codeLB P n ps ks y (2 * p + 1)
  | .cond c x y, p => opdB n c && (codeLB P n ps ks x (2 * p) && codeLB P n ps ks y (2 * p + 1))
  | .skip, _ => true
  | .label _, _ => true
  | .ret, _ => true
  | .exit _, _ => true
  | _, _ => false
/-- the region at a place. -/
def regAt : Code → Nat → List (Nat × Nat × Array Oper × Bool)
  | .region id ops dr, p => [(p, id, ops, dr)]
  | .seq x y, p => regAt x (2 * p) ++ regAt y (2 * p + 1)
  | .cond _ x y, p => regAt x (2 * p) ++ regAt y (2 * p + 1)
  | _, _ => []
theorem codeLB_ok {lf : Nat → Option LoopSum} {live : Nat → Option (List Nat)} {est : Est} {ps ks : List Nat} (hcf : CfOK P A cf) (hm : P.follows .mixedOrders = true) (hps : ∀ p, memN p ps = (est p).isSome) : ∀ (c : Code) (p : Nat), codeLB P n ps ks c p = true → (∀ x ∈ regAt c p, ∀ E, est x.1 = some E → BodyL (fun t => t ∈ ks) P n A e0 a0 w0 (.region x.2.1 x.2.2.1 x.2.2.2) (E x.2.2.1.toList)) → CodeLOK (fun t => t ∈ ks) P cf cfg lf live est n A e0 a0 w0 c p
  | .region id ops dr, p, h, hr => by
    simp only [CodeLOK]
    cases hE : est p with
    | some E => exact hr (p, id, ops, dr) (by simp [regAt]) E hE
    | none =>
      simp only [codeLB] at h
      have : memN p ps = false := by rw [hps, hE]; rfl
      rw [this, Bool.false_or] at h
      simp only [Bool.and_eq_true, Bool.or_eq_true, Bool.not_eq_true', List.all_eq_true] at h
      obtain ⟨⟨h1, h2⟩, h3⟩ := h
      refine ⟨⟨h1, fun hd => ?_⟩, fun o ho d hd hin => ?_⟩
      · rcases h2 with h2 | h2
        · rw [hd] at h2; cases h2
        · exact draw_ok hcf (drawB_ok hm h2)
      · have := h3 o ho
        rw [hd] at this
        simp only [Bool.not_eq_true'] at this
        rw [(memN_iff d ks).2 hin] at this
        cases this
  | .seq x y, p, h, hr => by
    simp only [codeLB, Bool.and_eq_true] at h
    exact ⟨codeLB_ok hcf hm hps x _ h.1 fun z hz => hr z (by simp [regAt, hz]), codeLB_ok hcf hm hps y _ h.2 fun z hz => hr z (by simp [regAt, hz])⟩
  | .cond c x y, p, h, hr => by
    simp only [codeLB, Bool.and_eq_true] at h
    exact ⟨h.1, codeLB_ok hcf hm hps x _ h.2.1 fun z hz => hr z (by simp [regAt, hz]), codeLB_ok hcf hm hps y _ h.2.2 fun z hz => hr z (by simp [regAt, hz])⟩
  | .skip, p, h, hr => ⟨trivial, trivial⟩
  | .label _, p, h, hr => ⟨trivial, trivial⟩
  | .ret, p, h, hr => ⟨trivial, trivial⟩
  | .exit _, p, h, hr => ⟨trivial, trivial⟩
  | .goto _, p, h, hr => by simp [codeLB] at h
  | .block _ _, p, h, hr => by simp [codeLB] at h
  | .scope _, p, h, hr => by simp [codeLB] at h
  | .loop _, p, h, hr => by simp [codeLB] at h
  | .rangeFunc .., p, h, hr => by simp [codeLB] at h
  | .refuse _, p, h, hr => by simp [codeLB] at h
def funLB (P : Program) (g : Nat) (ps ks : List Nat) : Bool :=
  match P.funcs[g]? with
  | some fn => match fn.body with
    | some c => codeLB P fn.ntmps ps ks c 1 && (resB fn.ntmps fn.results.toList && distinctB fn.results.toList fn.results.toList 0)
    | none => false
  | none => false
def funRegs (P : Program) (g : Nat) : List (Nat × Nat × Array Oper × Bool) :=
  match P.funcs[g]? with
  | some fn => match fn.body with
    | some c => regAt c 1
    | none => []
  | none => []
/-- what a region that stores must show, whatever the law's arguments. -/
def EstOK (P : Program) (A : AbsR) (g : Nat) (ks : List Nat) (fr0 : Fr) (c : Code) (E : Fr → Stack → Wr → Kont → Option Res) : Prop :=
  ∀ e0 a0 w0, WOK e0 w0 → (∀ l i, rhoAt e0.rho l i = none) → FRel (ntm P g) e0 fr0 a0 → BodyL (fun t => t ∈ ks) P (ntm P g) A e0 a0 w0 c E
theorem law_callsL (hcf : CfOK P A cf) (hm : P.follows .mixedOrders = true) {lf : Nat → Option LoopSum} {est : Est} {g : Nat} {ps ks : List Nat} {args : List AV} (hb : funLB P g ps ks = true) (hps : ∀ p, memN p ps = (est p).isSome)
    (hE : ∀ x ∈ funRegs P g, ∀ E, est x.1 = some E → EstOK P A g ks (nthD (up.ups args)) (.region x.2.1 x.2.2.1 x.2.2.2) (E x.2.2.1.toList)) (h : bodyL P cf cfg lf est g args = some (.bool true, [], []))
    (w : World) (vs : Array Value) (ha : ArgsP w args vs.toList) : Calls P g vs w fun e w' => e = .returned (.bool true) ∧ Below w.heap.size w w' := by
  unfold funLB at hb
  unfold funRegs at hE
  unfold bodyL at h
  cases hf : P.funcs[g]? with
  | none => rw [hf] at hb; cases hb
  | some fn =>
    have hntm : ntm P g = fn.ntmps := by unfold ntm; rw [hf]
    rw [hf] at hb hE h
    simp only at h hE
    cases hbd : fn.body with
    | none => simp only [hbd] at hb; cases hb
    | some c =>
      simp only [hbd, Bool.and_eq_true] at hb hE h
      obtain ⟨hN, h⟩ := cond_none h
      have hN' : args.length ≤ fn.ntmps := by rw [← lenN_eq]; exact (ble_iff _ _).1 hN
      have hcr := enter_cr (A := A) (envOf_ok w) (envOf_hr w) ⟨ha.get.1, fun i x v hx hv => ha.get.2 i x v hx hv _ _⟩ hN'
      have hr0 : ∀ l i, rhoAt (envOf w).enter.rho l i = none := by
        intro l i
        match l with
        | 0 => rfl
        | l + 1 => rfl
      obtain ⟨ex, fr1, H1, wr1, h1, h3⟩ := codeL_sim hcf c 1 (codeLB_ok (n := fn.ntmps) (A := A) (e0 := (envOf w).enter) (a0 := args0 fn.ntmps vs) (w0 := w) hcf hm hps c 1 hb.1 fun x hx E hxE => by
        have := hE x hx E hxE (envOf w).enter (args0 fn.ntmps vs) w hcr.wok hr0 (by rw [hntm]; exact hcr.fr)
        rwa [hntm] at this) _ _ _ _ _ h
      refine calls_of_wp hf hbd (wp_mono (h3 _ _ w hcr ⟨rfl, rfl, rfl, Nat.le_refl _, fun b hb => ⟨rfl, rfl, fun _ => rfl⟩⟩ (Keep.refl _ _)) fun x a' w' hq => ?_)
      obtain ⟨hx, e1, g1, g2, g3⟩ := hq
      have hfin : ∀ r, (match resVals P fr1 H1 fn.results.toList with | some vs => some (strip (resOf vs), ([] : Wr), ([] : Stack)) | none => none) = some r → r = (.bool true, [], []) → ∃ v, (results fn a'.tmps).run P w' = .ok v w' ∧ v = .bool true := by
        intro r hr hrr
        subst hrr
        cases hv : resVals P fr1 H1 fn.results.toList with
        | none => rw [hv] at hr; cases hr
        | some rs =>
          rw [hv] at hr
          simp only [Option.some.injEq, Prod.mk.injEq, and_true] at hr
          obtain ⟨us, k1, k2, k2', k3⟩ := resVals_sim g1 fn.results.toList rs hb.2.1 hv
          refine ⟨_, results_run k1, ?_⟩
          have hvr := VR.strip _ _ (some (.io 0 0)) _ (some fun j => .io 0 (j + 1)) _ (resOf_sim (e := e1) (base := 0) hb.2.2 k2 k2' k3)
          rw [hr] at hvr
          simpa only [VR] using hvr
      have hbelow : Below w.heap.size w w' := ⟨g2.os, g2.tape, g2.output, g2.size, fun k hk => (g2.blk k hk).1⟩
      cases ex with
      | exit i => cases h1
      | normal =>
        obtain ⟨v, m1, m2⟩ := hfin _ h1 rfl
        cases x <;> simp only [exMatch] at hx
        exact ⟨g3.defers, v, m1, by rw [m2], hbelow⟩
      | ret =>
        obtain ⟨v, m1, m2⟩ := hfin _ h1 rfl
        cases x <;> simp only [exMatch] at hx
        exact ⟨g3.defers, v, m1, by rw [m2], hbelow⟩
/-- where a law stores: place, ops ahead of the last two, slots. -/
structure StoreAt where
  p : Nat
  xt : Nat
  et : Nat
  q : Nat
  tS : Nat
  tI : Nat
  tV : Nat
  tP : Nat
def estL (P : Program) (cf : CallK) (cfg : Cfg) (g : Nat) (fr0 : Fr) (ks : List Nat) : List StoreAt → Est
  | [], _ => none
  | x :: r, p => bif Nat.beq p x.p then some (estAt P cf cfg (ntm P g) fr0 ks x.q x.tS x.tI x.tV x.tP) else estL P cf cfg g fr0 ks r p
def shapesB (P : Program) (g : Nat) (ks : List Nat) (l : List StoreAt) : List (Nat × Nat × Array Oper × Bool) → Bool
  | [] => true
  | (p, _, ops, dr) :: r => shape1 l p ops dr && shapesB P g ks l r
where shape1 : List StoreAt → Nat → Array Oper → Bool → Bool
  | [], _, _, _ => true
  | x :: r, p, ops, dr => bif Nat.beq p x.p then shapeB P (ntm P g) ks ops.toList dr x.xt x.et x.q x.tS x.tI x.tV x.tP else shape1 r p ops dr
theorem estL_some {g : Nat} {fr0 : Fr} {ks : List Nat} : ∀ (l : List StoreAt) (p : Nat), memN p (l.map (·.p)) = (estL P cf cfg g fr0 ks l p).isSome
  | [], p => rfl
  | x :: r, p => by
    simp only [List.map_cons, memN, estL]
    have hc : Nat.beq x.p p = Nat.beq p x.p := by
      cases h : Nat.beq x.p p with
      | true => rw [(beq_iff _ _).1 h, (beq_iff p p).2 rfl]
      | false => exact (beq_false.2 (Ne.symm (beq_false.1 h))).symm
    rw [hc]
    cases Nat.beq p x.p with
    | true => rfl
    | false => exact estL_some r p
theorem shape1_ok (hcf : CfOK P A cf) {g : Nat} {fr0 : Fr} {ks : List Nat} {p id : Nat} {ops : Array Oper} {dr : Bool} : ∀ (l : List StoreAt), shapesB.shape1 P g ks l p ops dr = true → ∀ E, estL P cf cfg g fr0 ks l p = some E → EstOK P A g ks fr0 (.region id ops dr) (E ops.toList)
  | [], h, E, hE => by cases hE
  | x :: r, h, E, hE => by
    simp only [shapesB.shape1] at h
    simp only [estL] at hE
    cases hb : Nat.beq p x.p with
    | true =>
      rw [hb] at h hE
      simp only [cond_true, Option.some.injEq] at h hE
      subst hE
      exact fun e0 a0 w0 h1 h2 h3 => estAt_ok hcf h h1 h2 h3
    | false =>
      rw [hb] at h hE
      exact shape1_ok hcf r h E hE
theorem shapes_ok (hcf : CfOK P A cf) {g : Nat} {fr0 : Fr} {ks : List Nat} {l : List StoreAt} : ∀ (rs : List (Nat × Nat × Array Oper × Bool)), shapesB P g ks l rs = true → ∀ x ∈ rs, ∀ E, estL P cf cfg g fr0 ks l x.1 = some E → EstOK P A g ks fr0 (.region x.2.1 x.2.2.1 x.2.2.2) (E x.2.2.1.toList)
  | [], _, x, hx => by cases hx
  | (p, id, ops, dr) :: r, h, x, hx => by
    simp only [shapesB, Bool.and_eq_true] at h
    rcases List.mem_cons.1 hx with rfl | hx
    · exact fun E hE => shape1_ok hcf l h.1 E hE
    · exact shapes_ok hcf r h.2 x hx
/-- a law that stores, out of its equation. -/
theorem law_store (hcf : CfOK P A cf) (hm : P.follows .mixedOrders = true) {g : Nat} {ks : List Nat} {l : List StoreAt} {args : List AV} (hb : funLB P g (l.map (·.p)) ks = true) (hs : shapesB P g ks l (funRegs P g) = true)
    (h : bodyL P cf cfg (fun _ => none) (estL P cf cfg g (nthD (up.ups args)) ks l) g args = some (.bool true, [], []))
    (w : World) (vs : Array Value) (ha : ArgsP w args vs.toList) : Calls P g vs w fun e w' => e = .returned (.bool true) ∧ Below w.heap.size w w' :=
  law_callsL hcf hm hb (fun p => estL_some l p) (shapes_ok hcf _ hs) h w vs ha
end Go.Vm
