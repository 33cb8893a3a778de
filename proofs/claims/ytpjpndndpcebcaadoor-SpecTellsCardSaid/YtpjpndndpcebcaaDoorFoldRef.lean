/- A stand-in: what the reference of fold imports. -/
import Derived.Test.YtpjpndndpcebcaaDoorSpecSameW
