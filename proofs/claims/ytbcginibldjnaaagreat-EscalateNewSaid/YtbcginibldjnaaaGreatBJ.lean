/-
  The typed layer, part J: calls of functions, regions. No project text.
-/
import Derived.Test.YtbcginibldjnaaaGreatBI
set_option linter.unusedVariables false
set_option linter.unusedSimpArgs false
namespace Go.Proofs.YtbcginibldjnaaaGreat.AM
open Go
variable {L L' : Lens} {ts ts' : TS} {hs hs' : HS}
/-- Which contract a call goes by: that of the function, for arguments such as these. -/
abbrev Env := Option Nat → FuncId → List BV → Option Sig
def EnvOK (P : Program) (E : Env) : Prop := ∀ d k vs g, E d k vs = some g → FnOK P k g
/-- A header of a whole array, where a part of one is asked. -/
def asView (hs : HS) : BV → BV
  | .own m u => match look m hs with
    | some (.arr _ l q) => if Nat.beq u q then .view m u 0 l.length else .own m u
    | _ => .own m u
  | x => x
def viewS (hs : HS) : SSh → BV → BV
  | .one (.view _), v => asView hs v
  | _, v => v
def viewL (hs : HS) : List SSh → List BV → List BV
  | s :: r, v :: vs => viewS hs s v :: viewL hs r vs
  | _, vs => vs
def wantsView (t : Nat) (s : List (Nat × SSh)) : Bool := match look t s with
  | some (.one (.view _)) => true
  | _ => false
def viewT (hs : HS) (s : List (Nat × SSh)) (ts : TS) : TS := ts.map fun p => (p.1, match wantsView p.1 s with | true => asView hs p.2 | false => p.2)
theorem look_mapK {g : Nat → BV → BV} (k : Nat) : ∀ ts : TS, look k (ts.map fun p => (p.1, g p.1 p.2)) = (look k ts).map (g k)
  | [] => rfl
  | (j, x) :: r => by
    simp only [List.map_cons, look]
    split
    · rename_i e; subst e; rfl
    · exact look_mapK k r
theorem asView_le {x : BV} (hi : Inv L hs) : AVle (x.er L) ((asView hs x).er L) := by
  cases x with
  | own m u =>
    simp only [asView]
    split
    · rename_i t l q hl
      split
      · rename_i e
        have := Nat.eq_of_beq_eq_true e; subst this
        simp only [BV.er, hi m t l u hl]
        exact .view m l.length
      · exact .refl _
    · exact .refl _
  | _ => exact .refl _
theorem viewS_le {s : SSh} {x : BV} (hi : Inv L hs) : AVle (x.er L) ((viewS hs s x).er L) := by
  unfold viewS; split
  · exact asView_le hi
  · exact .refl _
theorem viewL_le (hi : Inv L hs) : ∀ {ss : List SSh} {vs : List BV}, AVleL (erL L vs) (erL L (viewL hs ss vs))
  | [], vs => by simp only [viewL]; exact AVleL.refl _
  | s :: r, [] => by simp only [viewL]; exact AVleL.refl _
  | s :: r, v :: vs => by simp only [viewL, erL]; exact .cons (viewS_le hi) (viewL_le hi)
theorem viewT_le (hi : Inv L hs) {s : List (Nat × SSh)} {ts : TS} {t : Nat} {y : BV} (h : look t (viewT hs s ts) = some y) : ∃ x, look t ts = some x ∧ AVle (x.er L) (y.er L) := by
  unfold viewT at h
  rw [look_mapK (g := fun t x => match wantsView t s with | true => asView hs x | false => x)] at h
  cases hx : look t ts with
  | none => rw [hx] at h; simp at h
  | some x =>
    rw [hx] at h
    simp only [Option.map_some, Option.some.injEq] at h
    refine ⟨x, rfl, ?_⟩
    rw [← h]
    split
    · exact asView_le hi
    · exact .refl _
section
variable {R : Type}
/-! ### Calls -/
def callK (P : Program) (E : Env) (sp : Bool) (nn : Nat) (dst : Option Nat) (f : FuncId) (vs : List BV) (ts : TS) (hs : HS) (K : BEff → TS → HS → Option R) : Option R :=
  match dst with
  | some d => if callable P f then match E (some d) f vs with
    | some g => SL.get g.args (viewL hs g.args vs) [] fun σ x => OL.get g.pre hs σ fun σ y => g.F R x y fun a b =>
        if callChk g (σ ++ freshOf d g) d hs y a b then goE sp nn dst ts hs K (callEff g (σ ++ freshOf d g) d hs y a b) else none
    | none => none
    else none
  | none => none
variable {r : R} {P : Program} {o : Oper} {rd : TS} {E : Env}
theorem look_put {u : Nat} {l : List (Name × OSh)} {y : OL l} {n : Name} : n ∈ keys l → ∃ b, look n (OL.put u l y) = some b := by
  induction l with
  | nil => intro h; simp [keys] at h
  | cons p l ih =>
    intro h
    simp only [keys, List.map_cons, List.mem_cons] at h
    simp only [OL.put, look]
    split
    · exact ⟨_, rfl⟩
    · rename_i hne
      rcases h with h | h
      · exact absurd h.symm hne
      · exact ih h
theorem keys_put {u : Nat} {l : List (Name × OSh)} {y : OL l} : keys (OL.put u l y) = keys l := by
  induction l with
  | nil => rfl
  | cons p l ih => simp only [OL.put, keys, List.map_cons] at ih ⊢; rw [ih]
theorem arrs_of_put {u v : Nat} {l : List (Name × OSh)} {y : OL l} {n : Name} {t : TC} {x : List (TT t)} : look n (OL.put u l y) = some (.arr t x v) → n ∈ arrsOf l ∧ v = u ∨ n ∈ samesOf l ∧ v = 0 := by
  induction l with
  | nil => intro h; simp [OL.put, look] at h
  | cons p l ih =>
    intro h
    obtain ⟨k, o⟩ := p
    simp only [OL.put, look] at h
    split at h
    · rename_i e
      cases o with
      | box l => simp [OSh.put] at h
      | boxst t => simp [OSh.put] at h
      | sm => simp [OSh.put] at h
      | arr t => subst e; simp only [OSh.put, Option.some.injEq] at h; cases h; exact .inl ⟨by simp [arrsOf], rfl⟩
      | arrs t => subst e; simp only [OSh.put, Option.some.injEq] at h; cases h; exact .inr ⟨by simp [samesOf], rfl⟩
    · rcases ih h with ih | ih
      · refine .inl ⟨?_, ih.2⟩
        cases o <;> simp only [arrsOf] <;> first | exact ih.1 | exact List.mem_cons_of_mem _ ih.1
      · refine .inr ⟨?_, ih.2⟩
        cases o <;> simp only [samesOf] <;> first | exact ih.1 | exact List.mem_cons_of_mem _ ih.1
theorem sames_keys : ∀ {l : List (Name × OSh)} {n : Name}, n ∈ samesOf l → n ∈ keys l
  | [], n, h => by simp [samesOf] at h
  | (k, .arrs t) :: r, n, h => by
    simp only [samesOf, List.mem_cons] at h
    simp only [keys, List.map_cons, List.mem_cons]
    exact h.imp id (fun h => sames_keys h)
  | (k, .arr t) :: r, n, h => by simp only [samesOf] at h; simp only [keys, List.map_cons, List.mem_cons]; exact .inr (sames_keys h)
  | (k, .box t) :: r, n, h => by simp only [samesOf] at h; simp only [keys, List.map_cons, List.mem_cons]; exact .inr (sames_keys h)
  | (k, .boxst t) :: r, n, h => by simp only [samesOf] at h; simp only [keys, List.map_cons, List.mem_cons]; exact .inr (sames_keys h)
  | (k, .sm) :: r, n, h => by simp only [samesOf] at h; simp only [keys, List.map_cons, List.mem_cons]; exact .inr (sames_keys h)
theorem arrs_keys : ∀ {l : List (Name × OSh)} {n : Name}, n ∈ arrsOf l → n ∈ keys l
  | [], n, h => by simp [arrsOf] at h
  | (k, .arr t) :: r, n, h => by
    simp only [arrsOf, List.mem_cons] at h
    simp only [keys, List.map_cons, List.mem_cons]
    exact h.imp id (fun h => arrs_keys h)
  | (k, .arrs t) :: r, n, h => by simp only [arrsOf] at h; simp only [keys, List.map_cons, List.mem_cons]; exact .inr (arrs_keys h)
  | (k, .box t) :: r, n, h => by simp only [arrsOf] at h; simp only [keys, List.map_cons, List.mem_cons]; exact .inr (arrs_keys h)
  | (k, .boxst t) :: r, n, h => by simp only [arrsOf] at h; simp only [keys, List.map_cons, List.mem_cons]; exact .inr (arrs_keys h)
  | (k, .sm) :: r, n, h => by simp only [arrsOf] at h; simp only [keys, List.map_cons, List.mem_cons]; exact .inr (arrs_keys h)
theorem look_filter {f : Name → Bool} {n : Name} : ∀ {h : HS}, look n (h.filter fun p => f p.1) = if f n then look n h else none
  | [] => by simp [look]
  | (k, o) :: q => by
    have ih := look_filter (f := f) (n := n) (h := q)
    by_cases hk : f k = true
    · rw [List.filter_cons_of_pos (by simpa using hk)]
      simp only [look]
      by_cases e : k = n
      · subst e; simp [hk]
      · simp only [e, if_false, ih]
    · rw [List.filter_cons_of_neg (by simpa using hk), ih]
      simp only [look]
      by_cases e : k = n
      · subst e; simp [hk]
      · simp only [e, if_false]
theorem look_nodup {n : Name} {b : BO} : ∀ {h : HS}, nodupB (keys h) = true → (n, b) ∈ h → look n h = some b
  | [], _, hm => by simp at hm
  | (k, o) :: q, hn, hm => by
    simp only [keys, List.map_cons, nodupB, Bool.and_eq_true, Bool.not_eq_true'] at hn
    simp only [look]
    rcases List.mem_cons.1 hm with h | h
    · cases h; rw [if_pos rfl]
    · rw [if_neg (fun e => ?_)]
      · exact look_nodup hn.2 h
      · subst e
        have : isIn k (q.map (·.1)) = true := isIn_iff.2 (List.mem_map.2 ⟨_, h, rfl⟩)
        rw [this] at hn; simp at hn
theorem hpOf_mem {rr : Name → Name} {m : Name} {ob : BO} : ∀ {ks : List Name}, (m, ob) ∈ hpOf rr hs ks → look m hs = some ob
  | [], h => by simp [hpOf] at h
  | k :: ks, h => by
    simp only [hpOf] at h
    split at h
    · rename_i hk
      rcases List.mem_cons.1 h with h | h
      · cases h; exact hk
      · exact hpOf_mem h
    · exact hpOf_mem h
theorem hpOf_key {rr : Name → Name} {m : Name} {ob : BO} : ∀ {ks : List Name}, (m, ob) ∈ hpOf rr hs ks → ∃ n, n ∈ ks ∧ m = rr n
  | [], h => by simp [hpOf] at h
  | k :: ks, h => by
    simp only [hpOf] at h
    split at h
    · rcases List.mem_cons.1 h with h | h
      · cases h; exact ⟨k, by simp, rfl⟩
      · obtain ⟨n, h1, h2⟩ := hpOf_key h; exact ⟨n, List.mem_cons_of_mem _ h1, h2⟩
    · obtain ⟨n, h1, h2⟩ := hpOf_key h; exact ⟨n, List.mem_cons_of_mem _ h1, h2⟩
theorem hpOf_look {rr : Name → Name} (hrr : ∀ a b, rr a = rr b → a = b) {n : Name} {ob : BO} (h : look (rr n) hs = some ob) : ∀ {ks : List Name}, n ∈ ks → look (rr n) (hpOf rr hs ks) = some ob
  | [], hn => by simp at hn
  | k :: ks, hn => by
    simp only [hpOf]
    by_cases e : k = n
    · subst e; rw [h]; simp only [look, if_true]
    · have hn' : n ∈ ks := by rcases List.mem_cons.1 hn with h | h; · exact absurd h.symm e
                              · exact h
      split
      · simp only [look]; rw [if_neg (fun h => e (hrr _ _ h))]; exact hpOf_look hrr h hn'
      · exact hpOf_look hrr h hn'
theorem callK_some {sp : Bool} {nn : Nat} {K : BEff → TS → HS → Option R} {f : FuncId} {vs : List BV}
    (hE : EnvOK P E) (hop : callable P f = true → ∀ (L : Lens) (pre h : List (Name × AO)) (v : AV) (nw : List Name), SpecIs P f (erL L vs) pre v h → callOK pre h nw v = true → OpOK P o ⟨erT L rd, pre, v, h, nw⟩) (hrd : ∀ t v, (t, v) ∈ rd → look t ts = some v)
    (h : callK P E sp nn o.dst f vs ts hs K = some r) (hi : Inv L hs) :
    ∃ e L', Step P o rd L ts hs e L' ∧ dstOK nn o.dst = true ∧ K e (putB o.dst e.v ts) (e.upd ++ hs) = some r := by
  unfold callK at h
  split at h
  case h_2 => simp at h
  rename_i d hd
  split at h
  case isFalse => simp at h
  rename_i hcall
  split at h
  case h_2 => simp at h
  rename_i g hEf
  obtain ⟨σ1, x, h, hs1, g1⟩ := SL.get_some h
  obtain ⟨σ2, y, h, hs2, g2⟩ := OL.get_some h
  obtain ⟨va, vb, hF, h⟩ := (hE (some d) f vs g hEf).nat R x y _ r h
  split at h
  case isFalse => simp at h
  rename_i hchk
  unfold callChk at hchk
  simp only [Bool.and_eq_true] at hchk
  obtain ⟨⟨⟨⟨hm, hcb⟩, hu1⟩, hu2⟩, hkeep⟩ := hchk
  have hfit := renOK_fit hm
  have hinj := renOK_inj hm
  generalize hrr : renOf (σ2 ++ freshOf d g) = rr at hinj hfit h
  generalize hdd : verOf (σ2 ++ freshOf d g) = δ at hfit h
  have hfit2 : Fit rr δ σ2 := hfit.mono fun p hp => List.mem_append_left _ hp
  have hfit1 : Fit rr δ σ1 := hfit2.mono hs2
  have hwant : ∀ n b, look n (OL.put 0 g.pre y) = some b → ∃ a, look (rr n) hs = some a ∧ ((∃ cs ds, a = .box cs ∧ b = .box ds) ∨ (∃ t l, a = .arr t l (δ n) ∧ b = .arr t l 0) ∨ ∃ es, a = .sm es ∧ b = .sm es) ∧ ∀ L, OLe rr δ (δ n) L a b := fun n b hb => by
    obtain ⟨v, hv, hle⟩ := g2 rr δ (fun _ _ => 0) hfit2 n b hb
    refine ⟨v, hv, ?_, fun L => ?_⟩
    · rcases hle with ⟨cs, ds, h1, h2, _⟩ | h2
      · exact .inl ⟨cs, ds, h1, h2⟩
      · exact .inr h2
    · obtain ⟨v', hv', hle'⟩ := g2 rr δ L hfit2 n b hb
      rw [hv] at hv'; cases hv'; exact hle'
  have heff : callEff g (σ2 ++ freshOf d g) d hs y va vb = ⟨hpOf rr hs (keys g.pre), (resB (SL.put 1 g.res va)).ren rr δ, renHB rr δ (g.posts y vb), (freshOf d g).map (·.2.1),
    ((arrsOf g.post).filter fun n => (keys g.pre).contains n).map fun n => (rr n, δ n + 1)⟩ := by unfold callEff; rw [hrr, hdd]
  rw [heff] at hcb h
  suffices hgood : Good P o rd hs ⟨hpOf rr hs (keys g.pre), (resB (SL.put 1 g.res va)).ren rr δ, renHB rr δ (g.posts y vb), (freshOf d g).map (·.2.1),
    ((arrsOf g.post).filter fun n => (keys g.pre).contains n).map fun n => (rr n, δ n + 1)⟩ by
    obtain ⟨L', hst, hdd', hK⟩ := goE_some (rd := rd) (L := L) hgood hrd h hi
    exact ⟨_, L', hst, hdd', hK⟩
  -- the effect
  refine ⟨fun m ob hm' => hpOf_mem hm', fun L0 hL0 => ?_⟩
  · have hinvc : Inv (lensOf L0 rr δ) (OL.put 0 g.pre y) := fun n t l u hnl => by
      obtain ⟨a, ha, hk, _⟩ := hwant n _ hnl
      rcases hk with ⟨cs, ds, _, h2⟩ | ⟨t', l', rfl, h2⟩ | ⟨es, _, h2⟩
      · cases h2
      · cases h2; exact hL0 _ t l _ ha
      · cases h2
    obtain ⟨L1, hk1, hinv1, hspec⟩ := (hE (some d) f vs g hEf).spec x y va vb hF _ hinvc
    classical
    let L' : Lens := fun m v => if h : ∃ n, n ∈ arrsOf g.post ∧ m = rr n ∧ v = δ n + 1 then L1 (Classical.choose h) 1 else L0 m v
    have hA1 : ∀ n, n ∈ arrsOf g.post → L' (rr n) (δ n + 1) = L1 n 1 := fun n hn => by
      have hex : ∃ k, k ∈ arrsOf g.post ∧ rr n = rr k ∧ δ n + 1 = δ k + 1 := ⟨n, hn, rfl, rfl⟩
      show (if h : ∃ k, k ∈ arrsOf g.post ∧ rr n = rr k ∧ δ n + 1 = δ k + 1 then L1 (Classical.choose h) 1 else _) = L1 n 1
      rw [dif_pos hex, ← hinj _ _ (Classical.choose_spec hex).2.1]
    have hA2 : ∀ m v, ¬ (∃ n, n ∈ arrsOf g.post ∧ m = rr n ∧ v = δ n + 1) → L' m v = L0 m v := fun m v h => dif_neg h
    have hkp : ∀ n, n ∈ g.keep ∨ n ∈ samesOf g.post → L' (rr n) (δ n + 0) = L1 n 0 := fun n hn => by
      rw [hA2, hk1 n hn]; · rfl
      rintro ⟨n', hn', he, he2⟩
      have := hinj _ _ he; subst this
      exact absurd he2 (by omega)
    have hLL : ∀ n u, useOK g n u = true → L' (rr n) (δ n + u) = L1 n u := fun n u hn => by
      unfold useOK at hn
      split at hn
      · exact hkp n (by simp only [Bool.or_eq_true] at hn; exact hn.imp isIn_iff.1 isIn_iff.1)
      · exact hA1 n (isIn_iff.1 hn)
      · simp at hn
    refine ⟨L', fun m v h1 h2 => hA2 m v ?_, fun m t l v hml => ?_, ?_⟩
    · rintro ⟨n, hn, rfl, rfl⟩
      by_cases hp : n ∈ keys g.pre
      · exact h2 (List.mem_map.2 ⟨n, List.mem_filter.2 ⟨hn, by simpa using hp⟩, rfl⟩)
      · have hmem : (n, (1000000 + 1000 * d + n, 0)) ∈ freshOf d g := List.mem_map.2 ⟨n, List.mem_filter.2 ⟨arrs_keys hn, by simpa using hp⟩, rfl⟩
        have := (hfit n _ (List.mem_append_right _ hmem)).1
        exact h1 (List.mem_map.2 ⟨_, hmem, this.symm⟩)
    · rw [look_append] at hml
      cases hu : look m (renHB rr δ (g.posts y vb)) with
      | some ob =>
        rw [hu] at hml; cases hml
        obtain ⟨n, rfl⟩ := look_renHB_inv hu
        rw [look_renHB hinj] at hu
        cases hb : look n (g.posts y vb) with
        | none => rw [hb] at hu; simp at hu
        | some b =>
          rw [hb] at hu
          simp only [Option.map_some, Option.some.injEq] at hu
          cases b with
          | box cs => simp [BO.ren] at hu
          | sm es => simp [BO.ren] at hu
          | arr t' l' v' =>
            simp only [BO.ren] at hu; cases hu
            rw [hLL n v' ?_]
            · exact hinv1 n t l v' hb
            · unfold Sig.posts at hb
              rw [look_append] at hb
              cases hb1 : look n (OL.put 1 g.post vb) with
              | some b1 =>
                rw [hb1] at hb; cases hb
                rcases arrs_of_put hb1 with ⟨k1, rfl⟩ | ⟨k1, rfl⟩
                · exact isIn_iff.2 k1
                · simp only [useOK, isIn_iff.2 k1, Bool.or_true]
              | none =>
                rw [hb1] at hb
                simp only [look_filter (f := fun n => g.keep.contains n)] at hb
                split at hb
                · rename_i hc
                  have hv0 : v' = 0 := (arrs_of_put hb).elim (·.2) (·.2)
                  subst hv0
                  simp only [useOK, isIn_iff.2 (show n ∈ g.keep by simpa using hc), Bool.true_or]
                · simp at hb
      | none =>
        rw [hu] at hml
        rw [hA2 m v ?_]
        · exact hL0 m t l v hml
        · rintro ⟨n, hn, rfl, _⟩
          rw [look_renHB hinj] at hu
          obtain ⟨b, hb⟩ := look_put (u := 1) (y := vb) (arrs_keys hn)
          have : look n (g.posts y vb) = some b := by unfold Sig.posts; rw [look_append, hb]
          rw [this] at hu; simp at hu
    · have h1 := Spec.ren hinj hspec
      rw [ren_er hLL _ hu1, renH_er hLL _ hu2] at h1
      have h2 : SpecIs P f (renL rr (erL (lensOf L0 rr δ) (SL.put 0 g.args x))) (erH L0 (hpOf rr hs (keys g.pre))) (((resB (SL.put 1 g.res va)).ren rr δ).er L') (erH L' (renHB rr δ (g.posts y vb))) := by
        refine Spec.preLe h1 (fun m ob hm => ?_) (fun m ob hm => ?_)
        · obtain ⟨n, rfl⟩ := look_renH_inv hm
          rw [look_renH hinj, look_erH] at hm
          cases hb : look n (OL.put 0 g.pre y) with
          | none => rw [hb] at hm; simp at hm
          | some b =>
            rw [hb] at hm
            simp only [Option.map_some, Option.some.injEq] at hm
            obtain ⟨a, ha, _, hle⟩ := hwant n b hb
            have hkn : n ∈ keys g.pre := by rw [← keys_put (u := 0) (y := y)]; exact keys_of_look (by rw [hb]; simp)
            refine ⟨a.er L0, by rw [look_erH, hpOf_look hinj ha hkn]; rfl, ?_⟩
            rcases hle L0 with ⟨cs, ds, rfl, rfl, h3⟩ | ⟨t, l, rfl, rfl⟩ | ⟨es, rfl, rfl⟩
            · exact .inr ⟨_, _, rfl, by rw [← hm]; simp only [BO.er, AO.ren], h3⟩
            · exact .inl (by rw [← hm]; simp only [BO.er, AO.ren])
            · exact .inl (by rw [← hm]; simp only [BO.er, AO.ren])
        · rw [look_erH] at hm
          cases hb : look m (hpOf rr hs (keys g.pre)) with
          | none => rw [hb] at hm; simp at hm
          | some b =>
            obtain ⟨n, hn, rfl⟩ := hpOf_key (look_mem hb)
            obtain ⟨b', hb'⟩ := look_put (u := 0) (y := y) hn
            exact ⟨_, by rw [look_renH hinj, look_erH, hb']; rfl⟩
      exact hop hcall L0 _ _ _ _ (Spec.argsLe (Spec.argsLe h2 (g1 rr δ L0 hfit1)) (viewL_le hL0)) (callB_er hcb)
end
end Go.Proofs.YtbcginibldjnaaaGreat.AM
