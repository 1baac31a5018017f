/-
  A region that draws its order: commuting operations, and the theorem.
-/
import Derived.Test.YtihligeggkpolaaSymO
namespace Go.Proofs.Ytihligeggkpolaa

def gv (all : List Oper) (fr : List AV) : Option (Nat × Bool) → Option Bool
  | none => some true
  | some (j, want) => match dstAt all j with
    | none => none
    | some d => match fr.getD d .top with
      | .bool b => some (b == want)
      | .tup _ => some false
      | _ => none
def tmpsOf : List Operand → List Nat
  | [] => []
  | .tmp t :: r => t :: tmpsOf r
  | _ :: r => tmpsOf r
def slotsOf (all : List Oper) (o : Oper) : List Nat :=
  tmpsOf (opnds o.op) ++ (match o.guard with | some (j, _) => (dstAt all j).toList | none => [])
def apartB (all : List Oper) (x y : Oper) : Bool :=
  (match x.dst with | some d => !(slotsOf all y).contains d && !(decide (y.dst = some d)) | none => true) && (match y.dst with | some d => !(slotsOf all x).contains d | none => true)
def isStore : Op → Bool
  | .store _ _ _ => true
  | _ => false
def commB (r : Bool) (all : List Oper) (x y : Oper) : Bool :=
  apartB all x y && ((match cls x.op, cls y.op with
    | 0, _ => true
    | _, 0 => true
    | 1, 1 => true
    | 1, 2 => true
    | 2, 1 => true
    | _, _ => false) || (r && (decide (cls x.op = 1) && isStore y.op || isStore x.op && decide (cls y.op = 1))))

section
variable {P : Program} {tt : TT} {all : List Oper} {r : Bool}

theorem stepK_eq (draw : Option Bool) (o : Oper) (fr : List AV) (M : Mem) (K : List AV → Mem → Prop) : stepK P tt draw all o fr M K ↔ (match gv all fr o.guard with
    | some true => semK P tt draw o ((opnds o.op).map (avOf fr)) M fun u M' => K (setD fr o.dst u) M'
    | some false => K (setD fr o.dst (.tup [])) M
    | none => False) := by
  unfold stepK guardK gv
  cases o.guard with
  | none => simp only [avsK_eq, putD_eq]
  | some p =>
    obtain ⟨j, want⟩ := p
    simp only
    cases dstAt all j with
    | none => exact Iff.rfl
    | some d =>
      simp only [getK_eq, avsK_eq, putD_eq]
      cases fr.getD d .top with
      | bool b => cases b <;> cases want <;> exact Iff.rfl
      | _ => exact Iff.rfl

theorem getD_set_other {fr : List AV} {d t : Nat} (h : d ≠ t) (u : AV) : (fr.set d u).getD t .top = fr.getD t .top := by
  simp [List.getD, List.getElem?_set_ne h]
theorem avOf_set {fr : List AV} {d : Nat} (u : AV) : ∀ (xs : List Operand), d ∉ tmpsOf xs → xs.map (avOf (fr.set d u)) = xs.map (avOf fr)
  | [], _ => rfl
  | x :: xs, h => by
    cases x with
    | tmp t =>
      simp only [tmpsOf, List.mem_cons, not_or] at h
      simp only [List.map_cons, avOf_set u xs h.2, avOf, getD_set_other h.1]
    | const v => simp only [tmpsOf] at h; simp only [List.map_cons, avOf_set u xs h]; rfl
    | func f => simp only [tmpsOf] at h; simp only [List.map_cons, avOf_set u xs h]; rfl
    | global g => simp only [tmpsOf] at h; simp only [List.map_cons, avOf_set u xs h]; rfl
theorem slots_set {o : Oper} {fr : List AV} {dd : Option Tmp} (h : ∀ d, dd = some d → d ∉ slotsOf all o) (u : AV) :
    (opnds o.op).map (avOf (setD fr dd u)) = (opnds o.op).map (avOf fr) ∧ gv all (setD fr dd u) o.guard = gv all fr o.guard := by
  cases dd with
  | none => exact ⟨rfl, rfl⟩
  | some d =>
    have hd := h d rfl
    simp only [slotsOf, List.mem_append, not_or] at hd
    refine ⟨avOf_set u _ hd.1, ?_⟩
    unfold gv
    cases hg : o.guard with
    | none => rfl
    | some p =>
      obtain ⟨j, want⟩ := p
      rw [hg] at hd
      simp only at hd ⊢
      cases hj : dstAt all j with
      | none => rfl
      | some d' =>
        rw [hj] at hd
        have : d ≠ d' := by simpa using hd.2
        simp only [setD, getD_set_other this]
theorem setD_comm {fr : List AV} {x y : Option Tmp} (h : ∀ d, x = some d → y ≠ some d) (u v : AV) : setD (setD fr x u) y v = setD (setD fr y v) x u := by
  cases x with
  | none => rfl
  | some d =>
    cases y with
    | none => rfl
    | some e =>
      have : d ≠ e := fun he => h d rfl (by rw [he])
      simp only [setD]
      rw [List.set_comm u v this]

theorem apart_spec {x y : Oper} (h : apartB all x y = true) : (∀ d, x.dst = some d → d ∉ slotsOf all y) ∧ (∀ d, x.dst = some d → y.dst ≠ some d) ∧ (∀ d, y.dst = some d → d ∉ slotsOf all x) := by
  unfold apartB at h
  rw [Bool.and_eq_true] at h
  refine ⟨fun d hd => ?_, fun d hd => ?_, fun d hd => ?_⟩
  · have := h.1; rw [hd] at this; simp at this; exact this.1
  · have := h.1; rw [hd] at this; simp at this; exact this.2
  · have := h.2; rw [hd] at this; simpa using this

/-- an operation behind a store into a slot that it does not look at -/
theorem stepK_shift {o : Oper} {dd : Option Tmp} (h1 : ∀ d, dd = some d → d ∉ slotsOf all o) (h2 : ∀ d, dd = some d → o.dst ≠ some d) (draw : Option Bool) (fr : List AV) (u : AV) (M : Mem) (K : List AV → Mem → Prop) :
    stepK P tt draw all o (setD fr dd u) M K ↔ stepK P tt draw all o fr M fun fr' M' => K (setD fr' dd u) M' := by
  rw [stepK_eq, stepK_eq]
  obtain ⟨e1, e2⟩ := slots_set (fr := fr) h1 u
  rw [e1, e2]
  have e3 : ∀ v, setD (setD fr dd u) o.dst v = setD (setD fr o.dst v) dd u := fun v => setD_comm h2 u v
  simp only [e3]

theorem rs_fun {r : Rs} {x y : AV} (hx : rsK r (fun u => u = x)) (hy : rsK r (fun u => u = y)) : x = y := by
  cases r with
  | no => exact hx.elim
  | val u => simp only [rsK, forceK_eq] at *; rw [← hx, ← hy]
  | need c u => simp only [rsK, forceK_eq] at *; simp only [needK_iff] at *; rw [← hx.2, ← hy.2]
  | arith c k n => simp only [rsK] at *; simp only [arithK_iff] at *; rw [← hx.2, ← hy.2]
  | cmp p i => simp only [rsK] at *; simp only [cmpK_iff] at *; rw [← hx, ← hy]

theorem semK_c {o : Oper} (h : cls o.op = 2) (us : List AV) (M : Mem) : (∀ K, semK P tt (some r) o us M K = False) ∨ ∃ f l, ∀ K, semK P tt (some r) o us M K = callP P f l fun u => K u M := by
  unfold semK
  cases ho : o.op with
  | call c =>
    obtain ⟨callee, args, tys⟩ := c
    cases callee with
    | value f =>
      simp only
      cases us with
      | nil => exact .inl fun K => rfl
      | cons u us =>
        cases u with
        | fn f caps => exact .inr ⟨f, us ++ caps, fun K => by simp only [catK_eq]⟩
        | _ => exact .inl fun K => rfl
    | invoke _ _ => rw [ho] at h; simp [cls] at h
    | builtin b => rw [ho] at h; cases b <;> simp [cls] at h
  | _ => rw [ho] at h; simp [cls] at h

theorem cls_cases (op : Op) : cls op = 0 ∨ cls op = 1 ∨ cls op = 2 ∨ cls op = 3 := by
  cases op <;> first | (left; rfl) | (right; left; rfl) | (right; right; right; rfl) | skip
  rename_i c
  obtain ⟨callee, args, tys⟩ := c
  cases callee with
  | value f => right; right; left; rfl
  | invoke _ _ => left; rfl
  | builtin b => cases b <;> first | (left; rfl) | (right; right; right; rfl)

/-- a store into a row leaves one memory -/
theorem storeM_det {t : TypeId} {us : List AV} {M : Mem} {K : Mem → Prop} (h : storeM (some true) tt t us M K) : ∃ ℓ rt, ∃ (α : Type) (d : α) (enc : α → List AV) (l l' : List α), M ℓ = some (.row rt d enc l) ∧ K (M.set ℓ (.row rt d enc l')) ∧ ∀ K' : Mem → Prop, K' (M.set ℓ (.row rt d enc l')) → storeM (some true) tt t us M K' := by
  have leak : ∀ (cs : List AV) (M : Mem) (K : List AV → Mem → Prop), allPers cs = true → leakK cs M K = K cs M := by
    intro cs
    induction cs with
    | nil => intro M K _; rfl
    | cons u us ih =>
      intro M K hp
      simp only [allPers] at hp
      split at hp
      · rename_i hu
        cases u with
        | row a b c => simp [persA] at hu
        | _ => simp only [leakK]; rw [ih _ _ hp]
      · cases hp
  unfold storeM at h
  simp only at h
  split at h
  · rename_i ℓ j o x
    split at h
    · rename_i cs hcs
      split at h
      · rename_i hp
        unfold storeK at h
        simp only [hcs] at h
        split at h
        · rename_i cs0 i e ht
          cases e
          split at h
          · rename_i hsz
            rw [leak cs M _ hp] at h
            split at h
            · rename_i rt α d enc l hl
              split at h
              · rename_i hp2 hle
                rw [rowSetK_iff] at h
                obtain ⟨a', ha, hK⟩ := h
                refine ⟨ℓ, rt, α, d, enc, l, l.set j a', hl, hK, fun K' hK' => ?_⟩
                unfold storeM
                simp only [hcs, hp]
                unfold storeK
                simp only [hcs, ht, hsz]
                rw [leak cs M _ hp, hl]
                simp only [hp, hle]
                rw [rowSetK_iff]
                exact ⟨a', ha, hK'⟩
              · exact h.elim
            · exact h.elim
          · exact h.elim
        · exact h.elim
      · exact h.elim
    · exact h.elim
  · exact h.elim
theorem evM_set {t : TypeId} {p : Operand} {us : List AV} {M : Mem} {ℓ : Nat} {rt : TypeId} {α : Type} {d : α} {enc : α → List AV} {l l' : List α} (hl : M ℓ = some (.row rt d enc l)) :
    evM (some true) tt (.load t p) us (M.set ℓ (.row rt d enc l')) = evM (some true) tt (.load t p) us M := by
  simp only [evM]
  split
  · rfl
  · rename_i x hx
    unfold evLoad
    split
    · rfl
    · rename_i ℓ' o
      by_cases e : ℓ' = ℓ
      · subst e; rw [Mem.set_eq, hl]
      · rw [Mem.set_ne _ _ e]
    · rename_i ℓ' i o
      exact absurd rfl (hx ℓ' i o)
    · rfl
  · rfl

/-- the two operations themselves -/
theorem sem_swap {x y : Oper} (hc : ((match cls x.op, cls y.op with
    | 0, _ => true
    | _, 0 => true
    | 1, 1 => true
    | 1, 2 => true
    | 2, 1 => true
    | _, _ => false) || (r && (decide (cls x.op = 1) && isStore y.op || isStore x.op && decide (cls y.op = 1)))) = true) (ux uy : List AV) (M : Mem) (K : AV → AV → Mem → Prop)
    (h : semK P tt (some r) x ux M fun u M1 => semK P tt (some r) y uy M1 fun v M2 => K u v M2) : semK P tt (some r) y uy M fun v M2 => semK P tt (some r) x ux M2 fun u M1 => K u v M1 := by
  have rx : cls x.op = 0 ∨ cls x.op = 1 → ∀ M K, semK P tt (some r) x ux M K = rsK (evM (some r) tt x.op ux M) fun u => K u M := fun h M K => semK_r h (some r) ux M K
  have ry : cls y.op = 0 ∨ cls y.op = 1 → ∀ M K, semK P tt (some r) y uy M K = rsK (evM (some r) tt y.op uy M) fun u => K u M := fun h M K => semK_r h (some r) uy M K
  -- x reads, y reads
  have RR : (cls x.op = 0 ∨ cls x.op = 1) → (cls y.op = 0 ∨ cls y.op = 1) → semK P tt (some r) y uy M fun v M2 => semK P tt (some r) x ux M2 fun u M1 => K u v M1 := by
    intro hx hy
    rw [rx hx] at h
    rw [ry hy]
    obtain ⟨u, hu, h⟩ := rsK_ex h
    rw [ry hy] at h
    obtain ⟨v, hv, h⟩ := rsK_ex h
    refine rsK_mono hv fun v' e => ?_
    subst e
    rw [rx hx]
    refine rsK_mono hu fun u' e => ?_
    subst e
    exact h
  -- x reads, y calls
  have RC : (cls x.op = 0 ∨ cls x.op = 1) → cls y.op = 2 → semK P tt (some r) y uy M fun v M2 => semK P tt (some r) x ux M2 fun u M1 => K u v M1 := by
    intro hx hy
    rw [rx hx] at h
    obtain ⟨u, hu, h⟩ := rsK_ex h
    rcases semK_c (P := P) (tt := tt) hy uy M with hf | ⟨f, l, hf⟩
    · rw [hf] at h; exact h.elim
    · rw [hf] at h ⊢
      simp only [callP_iff] at *
      obtain ⟨R, n, h1, h2, h3, h4⟩ := h
      refine ⟨R, n, h1, h2, h3, fun v hv => ?_⟩
      show semK P tt (some r) x ux M fun u M1 => K u v M1
      rw [rx hx]
      refine rsK_mono hu fun u' e => ?_
      subst e
      exact h4 v hv
  have CR : cls x.op = 2 → (cls y.op = 0 ∨ cls y.op = 1) → semK P tt (some r) y uy M fun v M2 => semK P tt (some r) x ux M2 fun u M1 => K u v M1 := by
    intro hx hy
    rw [ry hy]
    rcases semK_c (P := P) (tt := tt) hx ux M with hf | ⟨f, l, hf⟩
    · rw [hf] at h; exact h.elim
    · rw [hf] at h
      rw [callP_iff] at h
      obtain ⟨R, n, h1, h2, ⟨u0, hu0⟩, h4⟩ := h
      have h0 : semK P tt (some r) y uy M fun v M2 => K u0 v M2 := h4 u0 hu0
      rw [ry hy] at h0
      obtain ⟨v, hv, _⟩ := rsK_ex h0
      refine rsK_mono hv fun v' e => ?_
      subst e
      rw [hf]
      rw [callP_iff]
      refine ⟨R, n, h1, h2, ⟨u0, hu0⟩, fun u hu => ?_⟩
      have h5 : semK P tt (some r) y uy M fun v M2 => K u v M2 := h4 u hu
      rw [ry hy] at h5
      obtain ⟨v2, hv2, h6⟩ := rsK_ex h5
      rw [rs_fun hv hv2]
      exact h6
  have NX : cls x.op = 0 → cls y.op = 3 → semK P tt (some r) y uy M fun v M2 => semK P tt (some r) x ux M2 fun u M1 => K u v M1 := by
    intro hx hy
    rw [rx (.inl hx)] at h
    obtain ⟨u, hu, h⟩ := rsK_ex h
    obtain ⟨p, hp⟩ := semK_x (P := P) (tt := tt) hy (some r) uy M
    obtain ⟨⟨v, M2⟩, h1, h2⟩ := (hp fun z => K u z.1 z.2).1 h
    refine (hp fun z => semK P tt (some r) x ux z.2 fun u M1 => K u z.1 M1).2 ⟨(v, M2), h1, ?_⟩
    show semK P tt (some r) x ux M2 fun u M1 => K u v M1
    rw [rx (.inl hx), evM_n (some r) hx ux M2 M]
    refine rsK_mono hu fun u' e => ?_
    subst e
    exact h2
  have XN : cls x.op = 3 → cls y.op = 0 → semK P tt (some r) y uy M fun v M2 => semK P tt (some r) x ux M2 fun u M1 => K u v M1 := by
    intro hx hy
    obtain ⟨p, hp⟩ := semK_x (P := P) (tt := tt) hx (some r) ux M
    obtain ⟨⟨u, M1⟩, h1, h2⟩ := (hp fun z => semK P tt (some r) y uy z.2 fun v M2 => K z.1 v M2).1 h
    simp only at h2
    rw [ry (.inl hy), evM_n (some r) hy uy M1 M] at h2
    obtain ⟨v, hv, h2⟩ := rsK_ex h2
    rw [ry (.inl hy)]
    refine rsK_mono hv fun v' e => ?_
    subst e
    exact (hp fun z => K z.1 v' z.2).2 ⟨(u, M1), h1, h2⟩
  have LS : cls x.op = 1 → isStore y.op = true → r = true → semK P tt (some r) y uy M fun v M2 => semK P tt (some r) x ux M2 fun u M1 => K u v M1 := by
    intro hx hy hr
    subst hr
    rw [rx (.inr hx)] at h
    obtain ⟨u, hu, h⟩ := rsK_ex h
    obtain ⟨t, p, hop⟩ : ∃ t p, x.op = .load t p := by
      cases hox : x.op with
      | load t p => exact ⟨t, p, rfl⟩
      | call c =>
        rw [hox] at hx
        obtain ⟨callee, args, tys⟩ := c
        cases callee with
        | builtin b => cases b <;> simp [cls] at hx
        | _ => simp [cls] at hx
      | _ => rw [hox] at hx; simp [cls] at hx
    cases hoy : y.op with
    | store t2 p2 q2 =>
      simp only [semK, hoy] at h ⊢
      obtain ⟨ℓ, rt, α, d, enc, l, l', hl, hK, hback⟩ := storeM_det h
      refine hback _ ?_
      have := rx (.inr hx) (M.set ℓ (.row rt d enc l')) (fun u M1 => K u (.tup []) M1)
      unfold semK at this
      rw [this, hop, evM_set hl, ← hop]
      refine rsK_mono hu fun u' e => ?_
      subst e
      exact hK
    | _ => rw [hoy] at hy; cases hy
  have SL : isStore x.op = true → cls y.op = 1 → r = true → semK P tt (some r) y uy M fun v M2 => semK P tt (some r) x ux M2 fun u M1 => K u v M1 := by
    intro hx hy hr
    subst hr
    rw [ry (.inr hy)]
    obtain ⟨t, p, hop⟩ : ∃ t p, y.op = .load t p := by
      cases hox : y.op with
      | load t p => exact ⟨t, p, rfl⟩
      | call c =>
        rw [hox] at hy
        obtain ⟨callee, args, tys⟩ := c
        cases callee with
        | builtin b => cases b <;> simp [cls] at hy
        | _ => simp [cls] at hy
      | _ => rw [hox] at hy; simp [cls] at hy
    cases hoy : x.op with
    | store t2 p2 q2 =>
      have h2 : storeM (some true) tt t2 ux M fun M1 => semK P tt (some true) y uy M1 fun v M2 => K (.tup []) v M2 := by
        have := h
        unfold semK at this
        rw [hoy] at this
        exact this
      obtain ⟨ℓ, rt, α, d, enc, l, l', hl, hK, hback⟩ := storeM_det h2
      rw [ry (.inr hy), hop, evM_set hl, ← hop] at hK
      refine rsK_mono hK fun v hv => ?_
      unfold semK
      rw [hoy]
      exact hback _ hv
    | _ => rw [hoy] at hx; cases hx
  by_cases hsp : (r && (decide (cls x.op = 1) && isStore y.op || isStore x.op && decide (cls y.op = 1))) = true
  · simp only [Bool.and_eq_true, Bool.or_eq_true, decide_eq_true_eq] at hsp
    rcases hsp.2 with h2 | h2
    · exact LS h2.1 h2.2 hsp.1
    · exact SL h2.1 h2.2 hsp.1
  replace hc : (match cls x.op, cls y.op with
    | 0, _ => true
    | _, 0 => true
    | 1, 1 => true
    | 1, 2 => true
    | 2, 1 => true
    | _, _ => false) = true := by
    rw [Bool.or_eq_true] at hc
    exact hc.resolve_right hsp
  rcases cls_cases x.op with hx | hx | hx | hx <;> rcases cls_cases y.op with hy | hy | hy | hy <;>
    first
      | exact RR (.inl hx) (.inl hy)
      | exact RR (.inl hx) (.inr hy)
      | exact RR (.inr hx) (.inl hy)
      | exact RR (.inr hx) (.inr hy)
      | exact RC (.inl hx) hy
      | exact RC (.inr hx) hy
      | exact CR hx (.inl hy)
      | exact CR hx (.inr hy)
      | exact NX hx hy
      | exact XN hx hy
      | (rw [hx, hy] at hc; simp at hc)

theorem semK_false {o : Oper} (us : List AV) (M : Mem) (h : semK P tt (some r) o us M fun _ _ => False) : False := by
  rcases cls_cases o.op with hc | hc | hc | hc
  · rw [semK_r (.inl hc)] at h; obtain ⟨_, _, h⟩ := rsK_ex h; exact h
  · rw [semK_r (.inr hc)] at h; obtain ⟨_, _, h⟩ := rsK_ex h; exact h
  · rcases semK_c (P := P) (tt := tt) hc us M with hf | ⟨f, l, hf⟩
    · rw [hf] at h; exact h
    · rw [hf] at h
      rw [callP_iff] at h
      obtain ⟨R, n, h1, h2, ⟨u0, hu0⟩, h4⟩ := h
      exact h4 u0 hu0
  · obtain ⟨p, hp⟩ := semK_x (P := P) (tt := tt) hc (some r) us M
    obtain ⟨_, _, h⟩ := (hp fun _ => False).1 h
    exact h
theorem semK_mono {o : Oper} {us : List AV} {M : Mem} {K K' : AV → Mem → Prop} (h : semK P tt (some r) o us M K) (hk : ∀ u M', K u M' → K' u M') : semK P tt (some r) o us M K' := by
  rcases cls_cases o.op with hc | hc | hc | hc
  · rw [semK_r (.inl hc)] at *; exact rsK_mono h fun u => hk u M
  · rw [semK_r (.inr hc)] at *; exact rsK_mono h fun u => hk u M
  · rcases semK_c (P := P) (tt := tt) hc us M with hf | ⟨f, l, hf⟩
    · rw [hf] at h; exact h.elim
    · rw [hf] at *
      simp only [callP_iff] at *
      obtain ⟨R, n, h1, h2, h3, h4⟩ := h
      exact ⟨R, n, h1, h2, h3, fun u hu => hk u M (h4 u hu)⟩
  · obtain ⟨p, hp⟩ := semK_x (P := P) (tt := tt) hc (some r) us M
    obtain ⟨z, h1, h2⟩ := (hp fun z => K z.1 z.2).1 h
    exact (hp fun z => K' z.1 z.2).2 ⟨z, h1, hk _ _ h2⟩
theorem stepK_mono {o : Oper} {fr : List AV} {M : Mem} {K K' : List AV → Mem → Prop} (h : stepK P tt (some r) all o fr M K) (hk : ∀ f M', K f M' → K' f M') : stepK P tt (some r) all o fr M K' := by
  rw [stepK_eq] at *
  split at h
  · exact semK_mono h fun u M' => hk _ _
  · exact hk _ _ h
  · exact h

theorem step_swap {x y : Oper} (hc : commB r all x y = true) (fr : List AV) (M : Mem) (K : List AV → Mem → Prop)
    (h : stepK P tt (some r) all x fr M fun fr1 M1 => stepK P tt (some r) all y fr1 M1 K) : stepK P tt (some r) all y fr M fun fr2 M2 => stepK P tt (some r) all x fr2 M2 K := by
  unfold commB at hc
  rw [Bool.and_eq_true] at hc
  obtain ⟨hap, hcl⟩ := hc
  obtain ⟨a1, a2, a3⟩ := apart_spec hap
  have a4 : ∀ d, y.dst = some d → x.dst ≠ some d := fun d hd he => a2 d he hd
  rw [stepK_eq] at h
  cases hgx : gv all fr x.guard with
  | none => rw [hgx] at h; exact h.elim
  | some bx =>
    rw [hgx] at h
    cases bx with
    | false =>
      simp only at h
      rw [stepK_shift a1 a2] at h
      refine (?_ : stepK P tt (some r) all y fr M fun fr2 M2 => stepK P tt (some r) all x fr2 M2 K)
      rw [stepK_eq] at h ⊢
      split at h
      · refine semK_mono h fun v M' hv => ?_
        rw [stepK_eq, (slots_set (fr := fr) a3 v).2, hgx]
        exact hv
      · rw [stepK_eq, (slots_set (fr := fr) a3 _).2, hgx]
        exact h
      · exact h
    | true =>
      simp only at h
      have h' : semK P tt (some r) x ((opnds x.op).map (avOf fr)) M fun u M1 => stepK P tt (some r) all y fr M1 fun fr2 M2 => K (setD fr2 x.dst u) M2 :=
        semK_mono h fun u M1 hh => (stepK_shift a1 a2 (some r) fr u M1 K).1 hh
      rw [stepK_eq]
      have hx : ∀ v M2 K, stepK P tt (some r) all x (setD fr y.dst v) M2 K ↔ semK P tt (some r) x ((opnds x.op).map (avOf fr)) M2 fun u M1 => K (setD (setD fr y.dst v) x.dst u) M1 := by
        intro v M2 K
        rw [stepK_eq, (slots_set (fr := fr) a3 v).2, hgx, (slots_set (fr := fr) a3 v).1]
      cases hgy : gv all fr y.guard with
      | none =>
        exfalso
        refine semK_false _ _ (semK_mono h' fun u M1 hh => ?_)
        rw [stepK_eq, hgy] at hh
        exact hh
      | some bb =>
        cases bb with
        | false =>
          simp only
          rw [hx]
          refine semK_mono h' fun u M1 hh => ?_
          rw [stepK_eq, hgy] at hh
          exact hh
        | true =>
          simp only
          simp only [hx]
          refine sem_swap (x := x) (y := y) hcl _ _ M (fun u v M' => K (setD (setD fr y.dst v) x.dst u) M') (semK_mono h' fun u M1 hh => ?_)
          rw [stepK_eq, hgy] at hh
          exact hh
end

end Go.Proofs.Ytihligeggkpolaa
