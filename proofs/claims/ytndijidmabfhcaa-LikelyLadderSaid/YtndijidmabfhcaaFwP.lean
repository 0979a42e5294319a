/- Functions that capture; conversions. -/
import Derived.Test.YtndijidmabfhcaaFwO
namespace Go.Proofs.Ytndijidmabfhcaa.Fw
open Go Go.RowKit

section
variable {P : Program} {T : Ty} {c : Ctx} {env : Env} {a : Act} {w : World}

theorem St.frzB {ss : List Nat} : ∀ {c : Ctx} {env : Env} {bx : List (Nat × BoxC)}, St c env a w → frzB env.bx ss = some bx → ∃ c', c.Next c' ∧ St c' { env with bx } a w ∧ Step c env w c' { env with bx } w ∧
    (∀ s b, look s env.bx = some b → ∃ b', look s bx = some b' ∧ b'.cells = b.cells ∧ b'.isAgg = b.isAgg ∧ (b.frozen = true ∨ s ∈ ss → b'.frozen = true)) := by
  induction ss with
  | nil =>
    intro c env bx h hf
    simp only [Fw.frzB, Option.some.injEq] at hf; subst hf
    exact ⟨c, .refl c, h, Step.refl _ _ _, fun s b hs => ⟨b, hs, rfl, rfl, fun e => e.resolve_right (by simp)⟩⟩
  | cons s ss ih =>
    intro c env bx h hf
    simp only [Fw.frzB] at hf
    cases hl : look s env.bx with
    | none => rw [hl] at hf; cases hf
    | some b =>
      rw [hl] at hf
      have h1 := h.freezeBox hl
      have hs : env.blk s := .inl (by rw [hl]; rfl)
      have S1 : Step c env w (c.hold s b.cells.length) { env with bx := (s, { b with frozen := true }) :: env.bx } w := Step.hold h hs (fun s' h' => by rw [look_cons]; split <;> first | rfl | exact h') (fun _ h' => h') rfl rfl
      obtain ⟨c', n, h2, S2, h3⟩ := ih h1 hf
      refine ⟨c', ⟨n.w0, n.I0, n.df⟩, h2, S1.trans S2, fun s' b' hs' => ?_⟩
      by_cases e : s = s'
      · subst e
        rw [hl] at hs'; cases hs'
        obtain ⟨m2, g1, g2, g3, g4⟩ := h3 s { b with frozen := true } (by rw [look_cons, if_pos rfl])
        exact ⟨m2, g1, g2, g3, fun _ => g4 (.inl rfl)⟩
      · obtain ⟨m2, g1, g2, g3, g4⟩ := h3 s' b' (by rw [look_cons, if_neg e]; exact hs')
        exact ⟨m2, g1, g2, g3, fun hh => g4 (hh.imp id fun hm => (List.mem_cons.1 hm).resolve_left fun e' => e e'.symm)⟩

/-- A captured variable that changes no more. -/
theorem rep_cap (h : St c env a w) {s : Nat} {b : BoxC} (hb : look s env.bx = some b) (hf : b.frozen = true) {mp : List (Nat × MapC)} {cs : List D} (hc : cloL mp b.cells = some cs)
    (hm : ∀ s', .mapr s' ∈ b.cells → ∀ m, look s' mp = some m → ∃ m', look s' env.mp = some m' ∧ m'.ks = m.ks ∧ m'.vs = m.vs ∧ m'.frozen = true) (hne : (!b.isAgg && cs.isEmpty) = false) :
    Rep c.I w (.eptr (BoxC.whole { b with cells := cs }) 0) (.pointer (some ⟨c.ρ s, 0, none⟩)) := by
  obtain ⟨vs, e, h1, h2, h3, _⟩ := h.bx s b hb
  obtain ⟨g1, g2⟩ := clo_cells h h2 hc hm
  have hcell : ∀ (j : Nat) x, cs[j]? = some x → x.isCell = true ∧ c.I (c.ρ s) j ∧ ∃ u, w.cell? ⟨c.ρ s, j, none⟩ = some u ∧ Rep c.I w x u := by
    intro j x hx
    obtain ⟨v, hv, hr⟩ := g1.get j x hx
    refine ⟨List.all_eq_true.1 g2 x (List.mem_of_getElem? hx), h3 hf j (List.getElem?_eq_some_iff.1 hv).1, v, ?_, hr⟩
    rw [cell_of_row w _ j ⟨vs⟩ e (0, 0) h1]; simpa using hv
  rw [rep_eptr]
  refine ⟨⟨c.ρ s, 0, none⟩, by simp [addr_add_mk], ?_⟩
  unfold BoxC.whole
  cases hag : b.isAgg with
  | true =>
    simp only [if_true, RepAt]
    refine repCs_of fun i x hx => ?_
    rw [Nat.zero_add, Nat.zero_add]; exact hcell i x hx
  | false =>
    rw [hag] at hne
    cases cs with
    | nil => simp at hne
    | cons x xs =>
      simp only [Bool.false_eq_true, if_false, List.headD_cons]
      have h0 := hcell 0 x rfl
      cases x <;> first | (cases h0.1; done) | exact h0

theorem after_makeFunc (h : St c env a w) {f : Nat} {ds : List D} {vs : List Value} (hcap : All2 (RepT c env w) ds vs) {l : List (Nat × D × List Nat)} (hl : allSome (ds.map (capD env.bx env.mp)) = some l)
    {mp : List (Nat × MapC)} {bx : List (Nat × BoxC)} (hfm : Fw.frzM env.mp (l.flatMap (·.2.2)) = some mp) (hfb : Fw.frzB env.bx (l.map (·.1)) = some bx) :
    After P c env { env with mp, bx } a w (.fn f (l.map (·.2.1))) (Instr.makeFunc (.func f) #[] ⟨vs⟩) := by
  obtain ⟨c1, n1, h1, S1, hm1⟩ := h.frzM hfm
  obtain ⟨c2, n2, h2, S2, hb2⟩ := h1.frzB (ss := l.map (·.1)) (bx := bx) hfb
  refine ⟨.func (.func f) #[] ⟨vs⟩, w, c2, by simp [Instr.makeFunc], n1.trans n2, h2, ?_⟩
  simp only [RepT, RepV, RepC, Rep]
  refine ⟨vs, rfl, ?_⟩
  have key : ∀ (ds : List D) (vs : List Value) (l' : List (Nat × D × List Nat)), All2 (RepT c env w) ds vs → allSome (ds.map (capD env.bx env.mp)) = some l' → (∀ p ∈ l', p.1 ∈ l.map (·.1) ∧ ∀ m ∈ p.2.2, m ∈ l.flatMap (·.2.2)) → RepL c2.I w (l'.map (·.2.1)) vs := by
    intro ds
    induction ds with
    | nil =>
      intro vs l' hv hl' _
      simp only [List.map_nil, allSome, Option.some.injEq] at hl'; subst hl'
      cases vs with
      | nil => simp [RepL]
      | cons _ _ => exact hv.elim
    | cons d ds ih =>
      intro vs l' hv hl' hin
      cases vs with
      | nil => exact hv.elim
      | cons v vs =>
      simp only [List.map_cons] at hl'
      cases hc : capD env.bx env.mp d with
      | none => rw [hc] at hl'; simp [allSome] at hl'
      | some p =>
        rw [hc] at hl'
        simp only [allSome] at hl'
        cases hr : allSome (ds.map (capD env.bx env.mp)) with
        | none => rw [hr] at hl'; cases hl'
        | some l2 =>
          rw [hr] at hl'
          simp only [Option.map_some, Option.some.injEq] at hl'; subst hl'
          simp only [List.map_cons, RepL]
          refine ⟨v, vs, rfl, ?_, ih vs l2 hv.2 hr fun p' hp' => hin p' (List.mem_cons_of_mem _ hp')⟩
          obtain ⟨hin1, hin2⟩ := hin p (List.mem_cons_self ..)
          unfold capD at hc
          split at hc
          · rename_i s
            cases hlk : look s env.bx with
            | none => rw [hlk] at hc; cases hc
            | some b =>
              rw [hlk] at hc
              simp only at hc
              cases hcl : cloL env.mp b.cells with
              | none => rw [hcl] at hc; cases hc
              | some cs =>
                rw [hcl] at hc
                simp only at hc
                cases hne : (!b.isAgg && cs.isEmpty) with
                | true => rw [hne] at hc; cases hc
                | false =>
                  rw [hne] at hc
                  simp only [cond_false, Option.some.injEq] at hc; subst hc
                  obtain ⟨hs, rfl⟩ := repT_loc hv.1
                  obtain ⟨b', k1, k2, k3, k4⟩ := hb2 s b hlk
                  have hρ : c2.ρ s = c.ρ s := ((S2.bx s ((S1.bx s hs).1)).2).trans (S1.bx s hs).2
                  have := rep_cap h2 k1 (k4 (.inr hin1)) (mp := env.mp) (cs := cs) (by rw [k2]; exact hcl) (fun s' hs' m hm => by
                    obtain ⟨m', q1, q2, q3, q4⟩ := hm1 s' m hm
                    exact ⟨m', q1, q2, q3, q4 (.inr (hin2 s' (mem_cloM_agg (by rw [← k2]; exact hs'))))⟩) (by rw [k3]; exact hne)
                  rw [hρ] at this
                  have e : BoxC.whole { b' with cells := cs } = BoxC.whole { b with cells := cs } := by simp [BoxC.whole, k3]
                  rw [e] at this
                  exact this
          · cases hc
  exact key ds vs l hcap hl fun p hp => ⟨List.mem_map_of_mem hp, fun m hm => List.mem_flatMap.2 ⟨p, hp, hm⟩⟩

theorem u8s_spec {I : Im} : ∀ {xs : List D} {l : List UInt8} {ad : Addr} {i : Nat}, u8s xs = some l → RepRow I w 1 xs ad i → ∃ ns : List Int, ns.length = xs.length ∧ l = ns.map (fun n => UInt8.ofNat n.toNat) ∧ ∀ j n, ns[j]? = some n → w.cell? (ad.add (i + j)) = some (.int .u8 n)
  | [], l, _, _, h, _ => by simp only [u8s, Option.some.injEq] at h; subst h; exact ⟨[], rfl, rfl, fun j n h => by simp at h⟩
  | x :: xs, l, ad, i, h, hr => by
    unfold u8s at h
    split at h
    · rename_i hc; cases hc
    · rename_i n xs' hc
      cases hc
      cases h2 : u8s xs with
      | none => rw [h2] at h; cases h
      | some l2 =>
        rw [h2] at h
        simp only [Option.map_some, Option.some.injEq] at h; subst h
        rw [repRow_cons] at hr
        obtain ⟨⟨_, hat⟩, hr2⟩ := hr
        obtain ⟨_, _, u, hu, hru⟩ := hat
        simp only [Rep] at hru; subst hru
        obtain ⟨ns, k1, k2, k3⟩ := u8s_spec h2 hr2
        refine ⟨n :: ns, by simp [k1], by simp [k2], fun j m hj => ?_⟩
        cases j with
        | zero => simp at hj; subst hj; simpa using hu
        | succ j => rw [show i + (j + 1) = i + 1 + j from by omega]; exact k3 j m (by simpa using hj)
    · cases h

theorem foldl_push : ∀ (ns : List Int) (s : List UInt8), ns.foldl (fun (r : ByteArray) n => r.push (UInt8.ofNat n.toNat)) ⟨⟨s⟩⟩ = ⟨⟨s ++ ns.map (fun n => UInt8.ofNat n.toNat)⟩⟩
  | [], s => by simp
  | n :: ns, s => by
    rw [List.foldl_cons, show (ByteArray.push ⟨⟨s⟩⟩ (UInt8.ofNat n.toNat)) = ⟨⟨s ++ [UInt8.ofNat n.toNat]⟩⟩ from by simp [ByteArray.push], foldl_push ns]
    simp

theorem kind_und {t : Nat} {e : TE} (h : TEok P t e) : ∃ d, P.underlying t = some d := by
  have hk := h.kind
  cases hk' : e.kind <;> rw [hk'] at hk <;> simp only [KindOK] at hk
  case agg fs => obtain ⟨Fs, h, _⟩ := hk; exact ⟨_, h⟩
  case other => obtain ⟨d, h, _⟩ := hk; exact ⟨_, h⟩
  case ptr => obtain ⟨x, h⟩ := hk; exact ⟨_, h⟩
  case func => obtain ⟨x, y, z, h⟩ := hk; exact ⟨_, h⟩
  case ifc => obtain ⟨x, h⟩ := hk; exact ⟨_, h⟩
  all_goals exact ⟨_, hk⟩

theorem yield_conv (hT : TyOK P T) {s t : Nat} {x : D} {v : Value} (hx : RepT c env w x v) {d : D} (hr : convD T s t x = some d) : Yield P c env w d (convert s t v) := by
  unfold convD at hr
  cases hs : T s with
  | none => rw [hs] at hr; cases hr
  | some es =>
    cases ht : T t with
    | none => rw [hs, ht] at hr; cases hr
    | some e =>
      rw [hs, ht] at hr
      obtain ⟨ds, hds⟩ := kind_und (hT s es hs)
      have hk := (hT t e ht).kind
      cases x <;> simp only at hr <;> first | (cases hr; done) | skip
      case int k n =>
        obtain rfl := repT_int hx
        cases hk' : e.kind <;> rw [hk'] at hr hk <;> simp only at hr <;> first | (cases hr; done) | skip
        rename_i k2
        simp only [KindOK] at hk
        simp only [Option.some.injEq] at hr; subst hr
        exact ⟨_, by cases ds <;> simp [convert, run_underlying hds, run_underlying hk, Conv.intToInt] <;> rfl, by simp [RepT, RepV, RepC, Rep]⟩
      case str l =>
        obtain rfl := repT_str hx
        cases hk' : e.kind <;> rw [hk'] at hr hk <;> simp only at hr <;> first | (cases hr; done) | skip
        simp only [KindOK] at hk
        simp only [Option.some.injEq] at hr; subst hr
        exact ⟨_, by cases ds <;> simp [convert, run_underlying hds, run_underlying hk] <;> rfl, by simp [RepT, RepV, RepC, Rep]⟩
      case sl st z xs =>
        cases hk' : e.kind <;> rw [hk'] at hr hk <;> simp only at hr <;> first | (cases hr; done) | skip
        simp only [KindOK] at hk
        have hks := (hT s es hs).kind
        cases hks' : es.kind <;> rw [hks'] at hr hks <;> simp only at hr <;> first | (cases hr; done) | skip
        case sl u =>
          simp only [KindOK] at hks
          cases hu : T u with
          | none => rw [hu] at hr; cases hr
          | some eu =>
            rw [hu] at hr
            simp only at hr
            have hku := (hT u eu hu).kind
            cases hku' : eu.kind <;> rw [hku'] at hr hku <;> (try simp only at hr) <;> first | (cases hr; done) | skip
            rename_i ki
            cases ki <;> (try simp only at hr) <;> first | (cases hr; done) | skip
            simp only [KindOK] at hku
            cases hz : Nat.beq z 1 with
            | false => rw [hz] at hr; cases hr
            | true =>
              obtain rfl := nbeq.1 hz
              rw [hz, cond_true] at hr
              cases hl : u8s xs with
              | none => rw [hl] at hr; cases hr
              | some l =>
                rw [hl] at hr
                simp only [Option.map_some, Option.some.injEq] at hr; subst hr
                obtain ⟨h1, _⟩ := repT_sl hx
                rcases h1 with ⟨rfl, rfl⟩ | ⟨b, cap, rfl, _, hrow⟩
                · simp only [u8s, Option.some.injEq] at hl; subst hl
                  exact ⟨.string ⟨⟨[]⟩⟩, by rw [run_convert_bytes_string w s t u none 0 0 hks hku hk]; rfl, by simp [RepT, RepV, RepC, Rep]⟩
                · obtain ⟨ns, k1, k2, k3⟩ := u8s_spec hl hrow
                  refine ⟨_, by
                    rw [run_convert_bytes_string w s t u (some b) _ _ hks hku hk]
                    exact run_bytesToString w b _ _ ns (by
                      have := run_loadCells_list (P := P) w b (ns.map (Value.int .u8)) (fun j v hj => by
                        rw [List.getElem?_map] at hj
                        cases hn : ns[j]? with
                        | none => rw [hn] at hj; cases hj
                        | some n =>
                          rw [hn] at hj; simp only [Option.map_some, Option.some.injEq] at hj; subst hj
                          have := k3 j n hn
                          rw [Nat.zero_add] at this; exact this)
                      simpa [k1] using this), ?_⟩
                  rw [show ByteArray.empty = ⟨⟨[]⟩⟩ from rfl, foldl_push, k2]
                  simp [RepT, RepV, RepC, Rep]
end

end Go.Proofs.Ytndijidmabfhcaa.Fw
