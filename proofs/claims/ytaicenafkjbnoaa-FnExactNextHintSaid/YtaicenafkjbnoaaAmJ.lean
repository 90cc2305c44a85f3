/- The abstract machine's operations are the model's: texts out of bytes, literals. -/
import Derived.Test.YtaicenafkjbnoaaAmI
set_option linter.unusedVariables false
set_option linter.unusedSimpArgs false
set_option linter.unusedSectionVars false
namespace Go.AM

section
variable {P : Program} {tv : TV} {E : Ent} {n : Nat} {s : St} {a : Act} {w : World} {dst : Option Tmp} {ty : TypeId} {pos : String} {aft : Array Edge} {g : Option (Nat × Bool)} {st : Step} {id8 : Nat}

theorem sim_conv (hP : TVOk P tv) (hd : ∀ d, dst = some d → d < n) (R : Rel E n s a w) (src d2 : TypeId) (x : Operand) (h : act tv s id8 (.convert src d2 x) = some st) (hvc : st.vc) : Sim P E n s a w ⟨dst, .convert src d2 x, ty, pos, aft, g⟩ st := by
  obtain ⟨pl, hH, hdf, hn, henv⟩ := R
  have hx := ev_c henv x
  simp only [act] at h
  unfold actConv at h
  split at h
  · rename_i e _ _ _ ht
    obtain ⟨i1, dd1, z1, g1, g2, g3, g4, g5, g6, g7, g8, g9⟩ := ofTV hP ht
    have g8 : dd1 = .slice e := g8
    subst g8
    split at h
    · rename_i ht2
      obtain ⟨i2, dd2, z2, k1, k2, k3, k4, k5, k6, k7, k8, k9⟩ := ofTV hP ht2
      have k8 : dd2 = .string := k8
      subst k8
      unfold convStr at h
      split at h
      · rename_i hte
        obtain ⟨i3, dd3, z3, q1, q2, q3, q4, q5, q6, q7, q8, q9⟩ := ofTV hP hte
        have q8 : dd3 = .int .u8 := q8
        subst q8
        split at h
        · rename_i l fr hrow
          injection h with h
          subst h
          obtain ⟨ad, cap, xs, us, hv, he, hes, hxs, hul, hne, hcell, hone, hrd⟩ := row_src hH hx hrow
          have hxs2 : xs = l.map fun y => [D.int .u8 y] := by simpa [D.elems, D.es] using he.symm
          have hel : ∀ j, j < l.length → us[j]? = some (.int .u8 (l.getD j 0)) := fun j hj => by
            obtain ⟨u, hu, hr⟩ := hrd j 0 (.int .u8 (l.getD j 0)) (by simp [hxs2, hj])
            have := reads_scal hr
            have hu' : us[j]? = some u := by simpa [D.es] using hu
            rw [hu']
            exact congrArg some this
          refine sim_val (v := .string (strOfInts l)) hH hdf hn henv hd rfl rfl ?_ rfl
          have hrun : (convert src d2 (a.eval x)).run P w = .ok (.string (strOfInts l)) w := by
            by_cases h0 : 0 < l.length
            · cases had : ad with
              | none => exact absurd had (hne (by simpa [D.len] using h0))
              | some q =>
                have hq0 := hcell q 0 _ had (hel 0 h0)
                have hsp : q.spot = none := by
                  rw [show q.add 0 = q from by simp [Addr.add]] at hq0
                  unfold World.cell? at hq0
                  split at hq0
                  · split at hq0
                    · cases hq0
                    · rename_i hs; simpa using hs
                  · cases hq0
                obtain ⟨qb, qo, qs⟩ := q
                simp only at hsp
                subst hsp
                rw [hv, had]
                refine run_convert_bytes_arg w src e g2 q2 qb qo _ cap l rfl (fun i hi => ?_) d2 k2
                have := hcell _ i _ had (hel i hi)
                rwa [add_off] at this
            · obtain rfl : l = [] := List.eq_nil_of_length_eq_zero (by omega)
              rw [hv]
              cases ad with
              | none => exact run_convert_bytes_nil w src e g2 q2 _ _ d2 k2
              | some q =>
                simp [convert, run_underlying g2, run_underlying k2, run_underlying q2, Conv.bytesToString, D.len, loadCells, loadCellsFrom, strOfInts]
                rfl
          simp [execOp, hrun]
        · cases h
      · cases h
    · cases h
  · rename_i t1 _ ht
    obtain ⟨i1, dd1, z1, g1, g2, g3, g4, g5, g6, g7, g8, g9⟩ := ofTV hP ht
    unfold convInt at h
    split at h
    · rename_i k _ _ _ k' m ht2 hxc
      obtain ⟨i2, dd2, z2, k1, k2, k3, k4, k5, k6, k7, k8, k9⟩ := ofTV hP ht2
      have k8 : dd2 = .int k := k8
      subst k8
      injection h with h
      subst h
      rw [hxc] at hx
      have hx : a.eval x = .int k' m := hx
      refine sim_val (v := .int k (k.wrap m)) hH hdf hn henv hd rfl rfl ?_ rfl
      simp [execOp, convert, run_underlying g2, run_underlying k2, hx, Conv.intToInt]
    · cases h
  · cases h

/-! ### What is laid into an array for good -/
theorem zone_sub {B : Bs} {H : Heap} {pl : Pl} {fr : Bool} {b : Nat} (h : ¬ zone B H pl fr b) (f : Bool) : ¬ zone B H pl (fr && f) b := by
  rintro (h' | ⟨h1, h2⟩ | h')
  · exact h (.inl h')
  · exact h (.inr (.inl ⟨(Bool.and_eq_true_iff.1 h1).1, h2⟩))
  · exact h (.inr (.inr h'))
theorem zone_sub' {B : Bs} {H : Heap} {pl : Pl} {fr : Bool} {b : Nat} (h : ¬ zone B H pl fr b) (f : Bool) : ¬ zone B H pl (f && fr) b := by
  rw [Bool.and_comm]; exact zone_sub h f
/-- H' is H with these objects written no more. -/
structure Killed (H H' : Heap) (ks : List Nat) : Prop where
  out : ∀ id, id ∉ ks → getA id H' = getA id H
  dead : ∀ id, id ∈ ks → ∃ v, getA id H' = some (.dead v)
theorem frz_reads {pl : Pl} (hH : HR E s.heap pl w) {c : C} {v : Value} {d : D} {fr : Bool} {ks : List Nat} (hf : frzD s.heap c = some (d, fr, ks)) (hc : CR E.b s.heap pl w c v) {H' : Heap} {ks' : List Nat} (hk : Killed s.heap H' ks') (hsub : ∀ k, k ∈ ks → k ∈ ks') :
    Reads (zone E.b H' pl fr) w v d := by
  have hz : ∀ fr b, ¬ zone E.b s.heap pl fr b → ¬ zone E.b H' pl fr b := by
    rintro fr b h (⟨id, o, h1, h2, h3⟩ | h')
    · by_cases hi : id ∈ ks'
      · obtain ⟨v, hv⟩ := hk.dead id hi
        rw [hv] at h1
        injection h1 with h1
        subst h1
        simp [Obj.live] at h2
      · rw [hk.out id hi] at h1
        exact h (.inl ⟨id, o, h1, h2, h3⟩)
    · exact h (.inr h')
  cases c <;> simp only [frzD, Option.some.injEq, Prod.mk.injEq, reduceCtorEq] at hf
  · obtain ⟨rfl, rfl, rfl⟩ := hf; obtain rfl : v = _ := hc; exact .int _ _
  · obtain ⟨rfl, rfl, rfl⟩ := hf; obtain rfl : v = _ := hc; exact .bool _
  · obtain ⟨rfl, rfl, rfl⟩ := hf; obtain rfl : v = _ := hc; exact .str _
  · obtain ⟨rfl, rfl, rfl⟩ := hf
    obtain rfl : v = _ := hc
    exact .slice none 0 0 _ 1 [] rfl rfl (Nat.le_refl _) Nat.one_pos (by simp) ⟨0, 0, none⟩ (fun _ _ => undef) (fun h => absurd h (by omega)) (fun j o hj => absurd hj (by omega)) (fun j o e h => by simp at h)
  · obtain ⟨rfl, rfl, rfl⟩ := hf
    exact hc.2.mono fun b _ hzz => ⟨hz _ b hzz, rfl⟩
  · rename_i id ver off len
    split at hf
    · rename_i ver' fr' dd hg
      split at hf
      · rename_i hcond
        obtain ⟨hver, hid⟩ := hcond
        subst hver
        injection hf with hf
        simp only [Prod.mk.injEq] at hf
        obtain ⟨rfl, rfl, rfl⟩ := hf
        refine (arr_reads hH hg hc.2 _ (fun b hb => ?_) (fun b _ hzz => hz _ b hzz)).2.2
        rintro (⟨id', o, h1, h2, h3⟩ | h2)
        · by_cases hi : id' ∈ ks'
          · obtain ⟨v, hv⟩ := hk.dead id' hi
            rw [hv] at h1
            injection h1 with h1
            subst h1
            simp [Obj.live] at h2
          · rw [hk.out id' hi] at h1
            have := hH.inj id' id o _ b h1 h2 hg rfl h3 hb
            subst this
            exact hi (hsub id' (by simp))
        · have h2 : b < E.w0.heap.size := h2.elim (fun h => h.2) (hH.hX b)
          rcases (hH.blk id _ b hg rfl hb).2 with h3 | ⟨oi, h3, _⟩
          · omega
          · have := hH.lentid id oi h3
            omega
      · cases hf
    · cases hf
theorem frz_one {pl : Pl} {B : Bs} {H : Heap} {c : C} {v : Value} {d : D} {fr : Bool} {ks : List Nat} (hf : frzD H c = some (d, fr, ks)) (hc : CR B H pl w c v) : v.oneCell' = true := by
  refine (cr_one hc ?_).1
  cases c <;> simp [frzD] at hf <;> rfl
theorem frzDs_reads {pl : Pl} (hH : HR E s.heap pl w) {H' : Heap} {ks' : List Nat} (hk : Killed s.heap H' ks') : ∀ {cs : List C} {ds : List D} {fr : Bool} {ks : List Nat}, frzDs s.heap cs = some (ds, fr, ks) → (∀ k, k ∈ ks → k ∈ ks') →
    ds.length = cs.length ∧ ∀ (j : Nat) d, ds[j]? = some d → ∃ c, cs[j]? = some c ∧ ∀ v, CR E.b s.heap pl w c v → Reads (zone E.b H' pl fr) w v d
  | [], ds, fr, ks, h, _ => by
    simp only [frzDs, Option.some.injEq, Prod.mk.injEq] at h
    obtain ⟨rfl, rfl, rfl⟩ := h
    exact ⟨rfl, fun j d h => by simp at h⟩
  | c :: r, ds, fr, ks, h, hsub => by
    simp only [frzDs] at h
    split at h
    · rename_i d f k ds' f' k' h1 h2
      simp only [Option.some.injEq, Prod.mk.injEq] at h
      obtain ⟨rfl, rfl, rfl⟩ := h
      have ih := frzDs_reads hH hk h2 (fun k hk => hsub k (by simp [hk]))
      refine ⟨by simp [ih.1], fun j d' hj => ?_⟩
      cases j with
      | zero =>
        simp only [List.getElem?_cons_zero, Option.some.injEq] at hj
        subst hj
        exact ⟨c, rfl, fun v hv => (frz_reads hH h1 hv hk (fun k hk => hsub k (by simp [hk]))).mono fun b _ hz => ⟨zone_sub hz f', rfl⟩⟩
      | succ j =>
        obtain ⟨c', hc', hr⟩ := ih.2 j d' (by simpa using hj)
        exact ⟨c', by simpa using hc', fun v hv => (hr v hv).mono fun b _ hz => ⟨zone_sub' hz f, rfl⟩⟩
    · cases h
/-- Objects given up, one after another. -/
theorem kill_all {pl : Pl} {H : Heap} (hH : HR E H pl w) : ∀ (ks : List Nat), (∀ k ∈ ks, k < 8000) → nodupB ks = true → ∀ H0, (∀ k ∈ ks, getA k H = getA k H0) →
    HR E (updH (killL H0 ks) H) pl w ∧ Evo E.b H pl w (updH (killL H0 ks) H) pl w ∧ Killed H (updH (killL H0 ks) H) ks
  | [], _, _, H0, _ => ⟨hH, evo_still rfl, ⟨fun _ _ => rfl, fun _ h => by cases h⟩⟩
  | k :: r, h1, h2, H0, h3 => by
    have hk := h1 k (by simp)
    simp only [nodupB, Bool.and_eq_true, Bool.not_eq_true', List.contains_eq_mem, decide_eq_false_iff_not] at h2
    have hv : ∀ o, getA k H = some o → o.ver < verOf H0 k := fun o ho => by rw [h3 k (by simp)] at ho; simp [verOf, ho]
    have hH' := hH.kill (v := verOf H0 k) hk hv
    have hev := evo_kill (B := E.b) (pl := pl) (w := w) hv
    have ih := kill_all hH' r (fun x hx => h1 x (by simp [hx])) h2.2 H0 (fun x hx => by
      have hne : ¬ k = x := fun e => h2.1 (e ▸ hx)
      rw [getA_setA, if_neg hne]
      exact h3 x (by simp [hx]))
    refine ⟨ih.1, ⟨fun id o ho => ?_, fun fr b hb hz => ?_, fun _ _ _ => rfl⟩, ⟨fun id hid => ?_, fun id hid => ?_⟩⟩
    · obtain ⟨o1, g1, t1⟩ := hev.obj id o ho
      obtain ⟨o2, g2, t2⟩ := ih.2.1.obj id o1 g1
      refine ⟨o2, g2, ?_⟩
      by_cases hmem : id = k
      · subst hmem
        left
        rw [getA_setA, if_pos rfl] at g1
        injection g1 with g1
        subst g1
        have h4 := hv o ho
        rcases t2 with t2 | t2
        · exact Nat.lt_trans h4 t2
        · cases o2 <;> simp [Obj.ver] at t2 ⊢ <;> first | exact t2.elim | (subst t2; exact h4)
      · rw [getA_setA, if_neg (fun e => hmem e.symm), ho] at g1
        injection g1 with g1
        subst g1
        exact t2
    · exact ih.2.1.zon fr b hb (hev.zon fr b hb hz)
    · rw [show updH (killL H0 (k :: r)) H = updH (killL H0 r) (setA k (.dead (verOf H0 k)) H) from rfl, ih.2.2.out id (fun h => hid (by simp [h])), getA_setA, if_neg (fun e => hid (by simp [e]))]
    · rcases List.mem_cons.1 hid with rfl | hid
      · have hnr : id ∉ r := h2.1
        rw [show updH (killL H0 (id :: r)) H = updH (killL H0 r) (setA id (.dead (verOf H0 id)) H) from rfl, ih.2.2.out id hnr, getA_setA, if_pos rfl]
        exact ⟨_, rfl⟩
      · exact ih.2.2.dead id hid
end
end Go.AM
