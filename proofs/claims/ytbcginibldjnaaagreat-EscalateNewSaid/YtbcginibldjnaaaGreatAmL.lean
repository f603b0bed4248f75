/-
  The abstract machine, part L: the rules as the walker uses them. No project text.
-/
import Derived.Test.YtbcginibldjnaaaGreatAmK
import Derived.KernelRfl
set_option linter.unusedSimpArgs false
set_option linter.unusedVariables false
namespace Go.Proofs.YtbcginibldjnaaaGreat.AM
open Go

def fitsL (n : Nat) (names : List Name) (L : List Row) (ts : List (Nat × AV)) (hs : List (Name × AO)) (ts' : List (Nat × AV)) (hs' : List (Name × AO)) : List (Option AV) × List (Option AO) × Bool :=
  match got n L ts hs with
  | (a, b, c, tf, hf) => (a ++ ts'.map (fun p => look p.1 tf), b ++ hs'.map (fun p => look p.1 hf), c && names.all fun m => (look m hs').isSome)
def fitsR (L : List Row) (ts' : List (Nat × AV)) (hs' : List (Name × AO)) : List (Option AV) × List (Option AO) × Bool := (wantS L ++ ts'.map (fun p => some p.2), wantH L ++ hs'.map (fun p => some p.2), true)
def subL (names : List Name) (ts : List (Nat × AV)) (hs : List (Name × AO)) (ts' : List (Nat × AV)) (hs' : List (Name × AO)) : List (Option AV) × List (Option AO) × Bool :=
  (ts'.map (fun p => look p.1 ts), hs'.map (fun p => look p.1 hs), names.all fun m => (look m hs').isSome)
def subR (ts' : List (Nat × AV)) (hs' : List (Name × AO)) : List (Option AV) × List (Option AO) × Bool := (ts'.map (fun p => some p.2), hs'.map (fun p => some p.2), true)

section
variable {P : Program} {ops : Array Oper} {i : Nat}
theorem StepOK.p {o : Oper} {d : Option Nat} {e : Eff} (hi : ops[i]? = some o) (hd : o.dst = d) (hg : o.guard = none) (h : OpOK P o e) : StepOK P ops i d e := by
  subst hd; exact StepOK.plain hi hg h
theorem StepOK.g {o oj : Oper} {d : Option Nat} {e : Eff} {j g : Nat} {b : Bool} (hi : ops[i]? = some o) (hd : o.dst = d) (hg : o.guard = some (j, b)) (hj : ops[j]? = some oj) (hjd : oj.dst = some g)
    (hrd : (g, AV.p (.v (.bool b))) ∈ e.rd) (h : OpOK P o e) : StepOK P ops i d e := by
  subst hd; exact StepOK.guarded hi hg hj hjd hrd h
theorem StepOK.k {o oj : Oper} {d : Option Nat} {j g : Nat} {b b' : Bool} (hi : ops[i]? = some o) (hd : o.dst = d) (hg : o.guard = some (j, b)) (hj : ops[j]? = some oj) (hjd : oj.dst = some g) (hb : (!b) = b') :
    StepOK P ops i d ⟨[(g, .p (.v (.bool b')))], [], .tup [], [], []⟩ := by
  subst hd; subst hb; exact StepOK.skipped hi hg hj hjd
theorem StepOK.k2 {o oj : Oper} {d : Option Nat} {j g : Nat} {b : Bool} (hi : ops[i]? = some o) (hd : o.dst = d) (hg : o.guard = some (j, b)) (hj : ops[j]? = some oj) (hjd : oj.dst = some g) :
    StepOK P ops i d ⟨[(g, .tup [])], [], .tup [], [], []⟩ := by
  subst hd; exact StepOK.skipped2 hi hg hj hjd
end

section
variable {P : Program} {Γ : Ctx} {s : AS} {Q : Exit → AS → Prop}
theorem AWp.region' {id : Nat} {ops : Array Oper} {ts : List (Nat × AV)} {hs : List (Name × AO)} {n : Nat} {names : List Name} (hn : Γ.n = n) (hk : Γ.names = names)
    (L : List Row) (hst : StepsOK P ops 0 L) (ts' : List (Nat × AV)) (hs' : List (Name × AO)) (hf : fitsL n names L ts hs ts' hs' = fitsR L ts' hs') (h : Q .normal (mk ts' hs')) : AWp P Γ (.region id ops false) (mk ts hs) Q :=
  AWp.region hn hk L hst hf h
theorem AWp.draw' {id : Nat} {ops : Array Oper} {ts : List (Nat × AV)} {hs : List (Name × AO)} {n : Nat} {names : List Name} (hn : Γ.n = n) (hk : Γ.names = names) (hmode : P.follows .mixedOrders = true)
    (L : List Row) (hst : StepsOK P ops 0 L) (ts' : List (Nat × AV)) (hs' : List (Name × AO)) (hf : fitsL n names L ts hs ts' hs' = fitsR L ts' hs') (hind : indep ops L ts hs = true) (h : Q .normal (mk ts' hs')) : AWp P Γ (.region id ops true) (mk ts hs) Q :=
  AWp.draw hn hk (by rw [hmode, Bool.true_or]) L hst hf hind h
theorem Weak.sub' {names : List Name} {ts ts' : List (Nat × AV)} {hs hs' : List (Name × AO)} (hk : Γ.names = names) (h : subL names ts hs ts' hs' = subR ts' hs') : Weak Γ (mk ts hs) (mk ts' hs') := Weak.sub hk h
theorem AWp.s_region {id : Nat} {ops : Array Oper} {y : Code} {ts : List (Nat × AV)} {hs : List (Name × AO)} {n : Nat} {names : List Name} (hn : Γ.n = n) (hk : Γ.names = names)
    (L : List Row) (hst : StepsOK P ops 0 L) (ts' : List (Nat × AV)) (hs' : List (Name × AO)) (hf : fitsL n names L ts hs ts' hs' = fitsR L ts' hs') (h : AWp P Γ y (mk ts' hs') Q) : AWp P Γ (.seq (.region id ops false) y) (mk ts hs) Q :=
  AWp.seq (AWp.region hn hk L hst hf h)
theorem AWp.s_draw {id : Nat} {ops : Array Oper} {y : Code} {ts : List (Nat × AV)} {hs : List (Name × AO)} {n : Nat} {names : List Name} (hn : Γ.n = n) (hk : Γ.names = names) (hmode : P.follows .mixedOrders = true)
    (L : List Row) (hst : StepsOK P ops 0 L) (ts' : List (Nat × AV)) (hs' : List (Name × AO)) (hf : fitsL n names L ts hs ts' hs' = fitsR L ts' hs') (hind : indep ops L ts hs = true) (h : AWp P Γ y (mk ts' hs') Q) : AWp P Γ (.seq (.region id ops true) y) (mk ts hs) Q :=
  AWp.seq (AWp.draw hn hk (by rw [hmode, Bool.true_or]) L hst hf hind h)
end
section
variable {P : Program} {s : AS}
theorem Res.tmp {rs : Array ResultVar} {t : Nat} {v : AV} (hr : rs = #[.tmp t]) (hv : s.slot t = some v) : Res P s rs v := by
  subst hr; unfold Res; simp only [List.size_toArray, List.length_singleton, if_true]; exact ⟨v, [], rfl, hv, rfl⟩
theorem Res.agg {rs : Array ResultVar} {t : Nat} {T : TypeId} {n : Name} {cells : List AV} (hr : rs = #[.cell t T]) (h1 : s.slot t = some (.ref n 0)) (h2 : s.heap n = some (.box cells)) (hT : aggT P T = true) (hz : sizeT P T = some cells.length) : Res P s rs (.agg cells) := by
  subst hr; unfold Res; simp only [List.size_toArray, List.length_singleton, if_true]; exact ⟨.agg cells, [], rfl, ⟨n, cells, h1, h2, .inl ⟨hT, hz, rfl⟩⟩, rfl⟩
theorem Res.cell {rs : Array ResultVar} {t : Nat} {T : TypeId} {n : Name} {v : AV} (hr : rs = #[.cell t T]) (h1 : s.slot t = some (.ref n 0)) (h2 : s.heap n = some (.box [v])) (hT : flatT P T = true) : Res P s rs v := by
  subst hr; unfold Res; simp only [List.size_toArray, List.length_singleton, if_true]; exact ⟨v, [], rfl, ⟨n, [v], h1, h2, .inr ⟨hT, rfl⟩⟩, rfl⟩
theorem Res.many {rs : Array ResultVar} {vs : List AV} (hr : Nat.beq rs.size 1 = false) (h : Res1s P s rs.toList vs) : Res P s rs (.tup vs) := by
  have : ¬ rs.size = 1 := fun e => by rw [e] at hr; simp at hr
  unfold Res; rw [if_neg this]; exact ⟨vs, rfl, h⟩
theorem Res1.tmp {t : Nat} {v : AV} (hv : s.slot t = some v) : Res1 P s (.tmp t) v := hv
theorem Res1.agg {t : Nat} {T : TypeId} {n : Name} {cells : List AV} (h1 : s.slot t = some (.ref n 0)) (h2 : s.heap n = some (.box cells)) (hT : aggT P T = true) (hz : sizeT P T = some cells.length) : Res1 P s (.cell t T) (.agg cells) := ⟨n, cells, h1, h2, .inl ⟨hT, hz, rfl⟩⟩
theorem Res1s.nil : Res1s P s [] [] := rfl
theorem Res1s.cons {r : ResultVar} {rs : List ResultVar} {v : AV} {vs : List AV} (h : Res1 P s r v) (h' : Res1s P s rs vs) : Res1s P s (r :: rs) (v :: vs) := ⟨v, vs, rfl, h, h'⟩
/-- The end of a function's body. -/
theorem fin_of {fn : Func} {pre hs h' : List (Name × AO)} {ts : List (Nat × AV)} {e : Exit} {post : AV → List (Name × AO) → Prop} {v : AV} (he : e = .normal ∨ e = .ret) (hr : Res P (mk ts hs) fn.results v)
    (h1 : h'.map (fun p => look p.1 hs) = h'.map (fun p => some p.2)) (h2 : (keys pre).all (fun n => (look n h').isSome) = true) (hp : post v h') :
    (e = .normal ∨ e = .ret) ∧ ∃ v h', Res P (mk ts hs) fn.results v ∧ (∀ n o, look n h' = some o → (mk ts hs).heap n = some o) ∧ (∀ n, n ∈ keys pre → look n h' ≠ none) ∧ post v h' :=
  ⟨he, v, h', hr, fun n o hn => map_eq_all h1 _ (look_mem hn), fun n hn hc => by
    have := List.all_eq_true.1 h2 n hn
    rw [hc] at this; simp at this, hp⟩
end
theorem nextQ_normal {N : AS → Prop} {Q : Exit → AS → Prop} {s : AS} (h : N s) : nextQ N Q .normal s := h
theorem nextQ_exit {N : AS → Prop} {Q : Exit → AS → Prop} {s : AS} {k : Nat} (h : Q (.exit k) s) : nextQ N Q (.exit k) s := h
theorem nextQ_ret {N : AS → Prop} {Q : Exit → AS → Prop} {s : AS} (h : Q .ret s) : nextQ N Q .ret s := h
theorem blockQ_normal {id : Nat} {Q : Exit → AS → Prop} {s : AS} (h : Q .normal s) : blockQ id Q .normal s := h
theorem blockQ_ret {id : Nat} {Q : Exit → AS → Prop} {s : AS} (h : Q .ret s) : blockQ id Q .ret s := h
theorem blockQ_exit {id : Nat} {Q : Exit → AS → Prop} {s : AS} (h : Q .normal s) : blockQ id Q (.exit id) s := by simp only [blockQ, if_true]; exact h
theorem blockQ_exit_ne {id k : Nat} {Q : Exit → AS → Prop} {s : AS} (hk : Nat.beq k id = false) (h : Q (.exit k) s) : blockQ id Q (.exit k) s := by
  have : ¬ k = id := fun e => by subst e; rw [Nat.beq_refl] at hk; simp at hk
  simp only [blockQ, this, if_false]; exact h

end Go.Proofs.YtbcginibldjnaaaGreat.AM
